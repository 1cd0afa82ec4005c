/-
  Layer 25: the walk of NetOrder.
-/
import Derived.Test.YtlnhpeghgabnkaaMem
namespace Go.Proofs.Ytlnhpeghgabnkaa
open Go.RowKit
attribute [local go_sem ↓] Go.wp_at_zero Go.wp_at_succ

def lenS : Value → Nat
  | .slice _ n _ => n
  | _ => 0
/-- Where NetOrder's first loop stands: k cuts are done, d messages sent. -/
def Ord (w : World) (bn s : Nat) (an : Ans) (ms : List Msg) (wr : World) (k : Nat) (vi vo : Value) (rad : Option Addr) (rn rcap : Nat) : Prop :=
  ∃ (v : Value) (L I O : List Pk) (d : Nat), Tri wr w.heap.size bn v L vi I vo O ∧ I = O ++ L ∧ I.length ≤ d + k ∧ d + rn = ms.length ∧ EM.Rd w w.heap.size rad (ms.drop d) ∧ rn ≤ rcap ∧ (rad = none → rcap = 0) ∧
    Blk wr s 29 #[.int .i64 an.r, .int .i64 an.k, .string an.t] ∧ Below w.heap.size w wr
theorem own_litM (w : World) (B : Nat) (hB : B ≤ w.heap.size) : EM.Own (w.alloc (.cells #[] 38)) B (.slice (some ⟨w.heap.size, 0, none⟩) 0 0) [] := Elt.Own.lit (E := EM) (n := 0) B hB rfl (by omega) #[] rfl
/-- A block of another type than a Net's and the packets' lies as it lay behind a call on the Net. -/
theorem NetAt.keeps {w w' : World} {B bn : Nat} {v : Value} {l l' : List Pk} (h : NetAt w B bn v l) (hg : NetGo B bn v l' w w') {g : Nat} {t : TypeId} {cs : Array Value} (hb : Blk w g t cs) (h1 : t ≠ 57) (h2 : t ≠ 40) : Blk w' g t cs := by
  obtain ⟨_, _, hu, _⟩ := hg
  refine hu.blk hb fun e => ?_
  rcases e with rfl | e
  · exact h1 (hb.type_eq h.blk).1
  · exact h.own.apart hb h2 e
theorem own_form {w : World} {B : Nat} {v : Value} {l : List Pk} (h : EP.Own w B v l) : ∃ ad n cap, v = .slice ad n cap ∧ l.length = n ∧ n ≤ cap := by
  rcases h.form with ⟨rfl, rfl⟩ | ⟨g, cap, rfl, hc, _⟩
  · exact ⟨none, 0, 0, rfl, rfl, Nat.le_refl _⟩
  · exact ⟨_, _, cap, rfl, rfl, hc⟩
set_option maxRecDepth 100000 in
set_option maxHeartbeats 8000000 in
theorem order_law (ad : Option Addr) (n cap : Nat) (cad : Option Addr) (m ccap : Nat) (an : Ans) (ms : List Msg) (w : World) (hn : ms.length = n) (hr : EM.Rd w w.heap.size ad ms) (hnil : ad = none → cap = 0) (hle : n ≤ cap) (hn5 : n ≤ 16777216) (hm5 : m ≤ 16777216)
    (hz : ∀ i, i < m → ∃ cb co x, cad = some ⟨cb, co, none⟩ ∧ cb < w.heap.size ∧ w.cell? ⟨cb, co + i, none⟩ = some (.int .i64 x)) :
    Calls Try.prog 5 #[.slice ad n cap, .slice cad m ccap, .agg #[.int .i64 an.r, .int .i64 an.k, .string an.t]] w fun e w' => e = .returned (.bool true) ∧ Below w.heap.size w w' := by
  have HR := Lib.hid hr
  have HN := Lib.hid hn
  have HNIL := Lib.hid hnil
  have HLE := Lib.hid hle
  have HZ := Lib.hid hz
  have hs0 := Lib.hid (Blk.new w #[.int .i64 an.r, .int .i64 an.k, .string an.t] 29)
  have hb0 := Lib.hid ((Below.refl w.heap.size w).alloc (Nat.le_refl _) (.cells #[.int .i64 an.r, .int .i64 an.k, .string an.t] 29))
  clear hn hr hnil hle hz
  go_enter Try.func5, Try.ntmps5
  go_wp2_with fail
  refine (fixed_any _).mono ?_
  rintro e w1 ⟨rfl, hb⟩
  have HB1 := Lib.hid (hb0.out.trans (hb.mono (by simp)))
  have hs1 := Lib.hid (hs0.out.below hb hs0.out.lt)
  clear hb hb0 hs0
  go_wp2_with fail
  refine (new_any w1).mono ?_
  rintro e w9 ⟨rfl, rfl⟩
  obtain ⟨w2, hw2⟩ : ∃ W, Hid (w1.alloc (.cells #[.slice none 0 0] 57) = W) := ⟨_, Lib.hid rfl⟩
  have hA2 : Hid (NetAt w2 w.heap.size w1.heap.size (.slice none 0 0) []) := by rw [← hw2.out]; exact Lib.hid (net_new w1 w.heap.size HB1.out.size)
  have HB2 : Hid (Below w.heap.size w w2) := by rw [← hw2.out]; exact Lib.hid (HB1.out.alloc HB1.out.size _)
  have hs2 : Hid (Blk w2 w.heap.size 29 #[.int .i64 an.r, .int .i64 an.k, .string an.t]) := by rw [← hw2.out]; exact Lib.hid (hs1.out.alloc _)
  rw [hw2.out]
  go_wp2_with fail
  go_loopw [8, 9, 10, 29] (fun v8 v9 v10 i wr => ∃ (k : Nat) (iad oad rad : Option Addr) (ni ci no co rn rcap : Nat), k ≤ m ∧ i = .int .i64 k ∧ v8 = .slice iad ni ci ∧ v9 = .slice oad no co ∧ v10 = .slice rad rn rcap ∧ Hid (Ord w w1.heap.size w.heap.size an ms wr k (.slice iad ni ci) (.slice oad no co) rad rn rcap)) (fun _ _ _ i _ => m - (intOf i).toNat)
  case atStart =>
    exact ⟨0, _, _, _, _, _, _, _, _, _, by omega, rfl, rfl, rfl, rfl, Lib.hid ⟨.slice none 0 0, [], [], [], 0, ⟨hA2.out, Elt.Own.nil _ _ _, Elt.Own.nil _ _ _, Apart.nil _ _ _, Apart.nil _ _ _, Apart.nil _ _ _⟩, rfl, Nat.zero_le _, by rw [HN.out]; omega, HR.out, HLE.out, HNIL.out, hs2.out, HB2.out⟩⟩
  case round =>
    obtain ⟨k, iad, oad, rad, ni, ci, no, co, rn, rcap, hk, rfl, rfl, rfl, rfl, hO⟩ := hrel
    clear hA2 HB2 hs2 hs1 HB1 hw2
    by_cases hkm : k < m
    · have hkm2 : (k : Int) < (m : Int) := by omega
      obtain ⟨v, L, I, O, d, hT, hI, hIl, hd, hRd, hrc, hrn, hans, hB⟩ := hO.out
      obtain ⟨cb, cof, c, rfl, hcb, hcell⟩ := HZ.out k hkm
      have hcell2 : wr.cell? ⟨cb, cof + k, none⟩ = some (.int .i64 c) := (hB.cell (p := ⟨cb, cof + k, none⟩) hcb).trans hcell
      have HT := Lib.hid hT
      have HI := Lib.hid hI
      have HIl := Lib.hid hIl
      have HD := Lib.hid hd
      have HRd := Lib.hid hRd
      have HRN := Lib.hid hrn
      have HANS := Lib.hid hans
      have HB := Lib.hid hB
      have HC := Lib.hid hcell
      clear hT hI hIl hRd hrn hans hB hO hcell hcb
      have hrl : rn ≤ 16777216 := by have := HN.out; omega
      obtain ⟨q, hq, hqn⟩ : ∃ q : Nat, Hid (((c ≤ 0 ∧ q = 0) ∨ (0 < c ∧ c ≤ (rn : Int) ∧ c = (q : Int))) ∨ ((rn : Int) < c ∧ q = rn)) ∧ q ≤ rn := by
        by_cases h1 : c ≤ 0
        · exact ⟨0, Lib.hid (.inl (.inl ⟨h1, rfl⟩)), by omega⟩
        · by_cases h2 : c ≤ (rn : Int)
          · exact ⟨c.toNat, Lib.hid (.inl (.inr ⟨by omega, h2, by omega⟩)), by omega⟩
          · exact ⟨rn, Lib.hid (.inr ⟨by omega, rfl⟩), Nat.le_refl _⟩
      go_upto_region 11 with fail
      go_cut [13] (fun v wx => v = .int .i64 (q : Int) ∧ Hid (wx = wr))
      case first =>
        rcases hq.out with (⟨h1, h2⟩ | ⟨h1, h2, h3⟩) | ⟨h1, h2⟩
        · subst h2
          clear hq
          go_wp2_with fail
          all_goals
            go_meet
            exact ⟨by first | rfl | (congr 1; omega), Lib.hid rfl⟩
        · subst h3
          clear hq
          go_wp2_with fail
          all_goals
            go_meet
            exact ⟨by first | rfl | (congr 1; omega), Lib.hid rfl⟩
        · subst h2
          clear hq
          go_wp2_with fail
          all_goals
            go_meet
            exact ⟨by first | rfl | (congr 1; omega), Lib.hid rfl⟩
      case rest =>
        obtain ⟨rfl, hwx⟩ := hcut
        obtain rfl : wr = wc := hwx.out.symm
        have hl0 := Lib.hid (own_litM wr wr.heap.size (Nat.le_refl _))
        have hbl := Lib.hid ((Below.refl wr.heap.size wr).alloc (Nat.le_refl _) (.cells #[] 38))
        have htl : Hid (((ms.drop d).take q).length = q) := Lib.hid (by rw [List.length_take, List.length_drop]; have := HD.out; omega)
        have hrd := Lib.hid (((HRd.out.below (HB.out.alloc HB.out.size (.cells #[] 38)) (Nat.le_refl _)).mono (by have := HB.out.size; simp; omega : w.heap.size ≤ (wr.alloc (.cells #[] 38)).heap.size)).take q)
        have t1 := fun W => EM.slice_to rad rn rcap q (q : Int) rfl (Nat.le_trans hqn hrc) W
        change ∀ W, (Instr.slice 27 _ _ _ _).run Try.prog W = _ at t1
        go_wp2_with (at_builtin; refine EM.wpList_appL rfl _ _ (by rfl) wr.heap.size _ [] ((ms.drop d).take q) _ (by rfl) hl0.out rad q rcap (by rfl) htl.out hrd.out HRN.out (by have := htl.out; simp only [List.length_nil]; omega) (by simp) ?_; intro ad2 n2 c2 w3 h2; rw [List.nil_append] at h2)
        have hb3 := Lib.hid (h2.out.below hl0.out hbl.out (by simp))
        have HT3 := Lib.hid (HT.out.below hb3.out)
        have HB3 := Lib.hid (HB.out.trans (hb3.out.mono HB.out.size))
        have HANS3 := Lib.hid (HANS.out.below hb3.out HANS.out.lt)
        have hLl : Hid (L.length ≤ 33554432) := Lib.hid (by have h1 := HI.out; have h2 := HIl.out; have h3 := HD.out; have h4 := HN.out; rw [h1, List.length_append] at h2; omega)
        clear hrd hl0 hbl
        refine (send_any w.heap.size w1.heap.size v L ad2 n2 c2 ((ms.drop d).take q) w3 HT3.out.net HB3.out.size h2.out.own.len_eq.1 h2.out.own.rd (sep_msgs HT3.out.net h2.out.own) (by have h1 := h2.out.own.len_eq.1; have h3 := htl.out; have h4 := hLl.out; omega)).mono ?_
        rintro e w4 ⟨rfl, hg⟩
        obtain ⟨v4, hT4⟩ := HT3.out.go hg
        have HT4 := Lib.hid hT4
        have HB4 := Lib.hid (HT3.out.goB hg HB3.out (Nat.le_refl _))
        have HANS4 := Lib.hid (HT3.out.net.keeps hg HANS3.out (by decide) (by decide))
        clear hg hT4 h2 hb3 HT3 HB3 HANS3 HT HB HANS
        go_wp2_with fail
        go_loopw [8, 49] (fun v8 i wr => ∃ (j : Nat) (iad' : Option Addr) (ni' ci' : Nat), j ≤ q ∧ i = .int .i64 j ∧ v8 = .slice iad' ni' ci' ∧ Hid (Tri wr w.heap.size w1.heap.size v4 (L ++ ((ms.drop d).take q).map pkM) (.slice iad' ni' ci') (I ++ ((ms.drop d).take j).map pkM) (.slice oad no co) O) ∧ Hid (Blk wr w.heap.size 29 #[.int .i64 an.r, .int .i64 an.k, .string an.t]) ∧ Hid (Below w.heap.size w wr)) (fun _ i _ => q - (intOf i).toNat)
        case atStart => exact ⟨0, _, _, _, by omega, rfl, rfl, by rw [List.take_zero, List.map_nil, List.append_nil]; exact HT4, HANS4, HB4⟩
        case round =>
          obtain ⟨j, iad', ni', ci', hj, rfl, rfl, HT5, HANS5, HB5⟩ := hrel
          clear HT4 HANS4 HB4
          by_cases hjq : j < q
          · have hjq2 : (j : Int) < (q : Int) := by omega
            obtain ⟨mm, hm⟩ : ∃ mm, Hid ((ms.drop d)[j]? = some mm) := ⟨(ms.drop d)[j]'(by rw [List.length_drop]; have := HD.out; omega), Lib.hid (by simp)⟩
            obtain ⟨b3, o3, e3, hl3, y0, y1, y2, y3, y4, y5, y6⟩ := rdM (HRd.out.below HB5.out (Nat.le_refl _)) j mm hm.out
            have hnx := Lib.hid (take_succ_map pkM (ms.drop d) j mm hm.out)
            have hl9 := Nat.lt_of_lt_of_le hl3 HB5.out.size
            have hlb2 : Hid ((I ++ ((ms.drop d).take j).map pkM).length + 1 ≤ 274877906944) := Lib.hid (by have h2 := HIl.out; have h3 := HD.out; have h4 := HN.out; rw [List.length_append, List.length_map, List.length_take]; omega)
            obtain ⟨r', k', t', a', m', q', p'⟩ := mm
            dsimp only at y0 y1 y2 y3 y4 y5 y6
            subst e3
            have HT6 := Lib.hid (HT5.out.alloc (.cells #[.int .i64 r', .int .i64 k', .string t', .int .i64 a', .int .i64 m', .string q', .string p'] 38))
            have HANS6 := Lib.hid (HANS5.out.alloc (.cells #[.int .i64 r', .int .i64 k', .string t', .int .i64 a', .int .i64 m', .string q', .string p'] 38))
            have HB6 := Lib.hid (HB5.out.alloc HB5.out.size (.cells #[.int .i64 r', .int .i64 k', .string t', .int .i64 a', .int .i64 m', .string q', .string p'] 38))
            go_wp2_with (at_builtin; refine EP.wpList_app rfl _ _ (by rfl) w.heap.size _ _ [pkM ⟨r', k', t', a', m', q', p'⟩] (wr.alloc (.cells #[.int .i64 r', .int .i64 k', .string t', .int .i64 a', .int .i64 m', .string q', .string p'] 38)) _ (by rfl) HT6.out.i _ 1 (by rfl) (by rfl) (by simp) (by rfl) hlb2.out HB6.out.size ?_; intro ad9 n9 c9 w9 h9)
            have HT7 := Lib.hid (HT6.out.app_i h9.out)
            have HB7 := Lib.hid (h9.out.below HT6.out.i HB6.out HB6.out.size)
            have HANS7 := Lib.hid (h9.out.upd.blk HANS6.out (HT6.out.i.apart HANS6.out (by decide)))
            go_roundw
            case rel => exact ⟨j + 1, _, _, _, by omega, by go_num, rfl, by rw [hnx.out, ← List.append_assoc]; exact HT7, HANS7, HB7⟩
            case measure => simp [intOf]; omega
          · have hjq2 : ¬ (j : Int) < (q : Int) := by omega
            obtain rfl : j = q := by omega
            obtain ⟨A2, hA2⟩ : ∃ A : Option Addr, Hid ((if rcap = j then rad else rad.map (fun a => a.add (j * EM.size))) = A) := ⟨_, Lib.hid rfl⟩
            have t2 := fun W => EM.slice_from rad rn rcap j (j : Int) rfl hqn W
            rw [hA2.out] at t2
            change ∀ W, (Instr.slice 27 _ _ _ _).run Try.prog W = _ at t2
            have hR2 := Lib.hid (HRd.out.drop (n := rn) (by rw [List.length_drop]; have := HD.out; omega) hrc hA2.out)
            rw [List.drop_drop] at hR2
            have hA2n : Hid (A2 = none → rcap - j = 0) := Lib.hid fun e => by
              have h1 := hA2.out
              rw [e] at h1
              split at h1
              · omega
              · cases rad with
                | none => have := HRN.out rfl; omega
                | some x => simp at h1
            obtain ⟨M, hM⟩ : ∃ M, Hid (((ms.drop d).take j).map pkM = M) := ⟨_, Lib.hid rfl⟩
            have hMl : Hid (M.length = j) := by rw [← hM.out]; exact Lib.hid (by rw [List.length_map]; exact htl.out)
            rw [hM.out] at HT5
            obtain ⟨x0, x1, x2⟩ : wr.cell? ⟨w.heap.size, 0, none⟩ = some (.int .i64 an.r) ∧ wr.cell? ⟨w.heap.size, 1, none⟩ = some (.int .i64 an.k) ∧ wr.cell? ⟨w.heap.size, 2, none⟩ = some (.string an.t) := ⟨HANS5.out.at_ 0, HANS5.out.at_ 1, HANS5.out.at_ 2⟩
            clear hM htl t1
            go_wp2_with fail
            refine (reply_any w.heap.size w1.heap.size v4 (L ++ M) an wr HT5.out.net HB5.out.size (by rw [List.length_append, hMl.out]; have := hLl.out; omega)).mono ?_
            rintro e w6 ⟨rfl, hg⟩
            obtain ⟨v6, hT6⟩ := HT5.out.go hg
            have HT6 := Lib.hid hT6
            have HB6 := Lib.hid (HT5.out.goB hg HB5.out (Nat.le_refl _))
            have HANS6 := Lib.hid (HT5.out.net.keeps hg HANS5.out (by decide) (by decide))
            clear x0 x1 x2 hg hT6 HT5 HANS5 HB5 t2
            obtain ⟨x0, x1, x2⟩ : w6.cell? ⟨w.heap.size, 0, none⟩ = some (.int .i64 an.r) ∧ w6.cell? ⟨w.heap.size, 1, none⟩ = some (.int .i64 an.k) ∧ w6.cell? ⟨w.heap.size, 2, none⟩ = some (.string an.t) := ⟨HANS6.out.at_ 0, HANS6.out.at_ 1, HANS6.out.at_ 2⟩
            have hlb3 : Hid ((I ++ M).length + 1 ≤ 274877906944) := Lib.hid (by have h2 := HIl.out; have h3 := HD.out; have h4 := HN.out; rw [List.length_append, hMl.out]; omega)
            go_wp2_with (at_builtin; refine EP.wpList_app rfl _ _ (by rfl) w.heap.size _ _ [pkA an] w6 _ (by rfl) HT6.out.i _ 1 (by rfl) (by rfl) (by rfl) (by rfl) hlb3.out HB6.out.size ?_; intro ad7 n7 c7 w7 h7)
            have HT7 := Lib.hid (HT6.out.app_i h7.out)
            have HB7 := Lib.hid (h7.out.below HT6.out.i HB6.out HB6.out.size)
            have HANS7 := Lib.hid (h7.out.upd.blk HANS6.out (HT6.out.i.apart HANS6.out (by decide)))
            obtain ⟨p, tl, hp⟩ : ∃ p tl, Hid (L ++ M ++ [pkA an] = p :: tl) := by
              cases hq : L ++ M ++ [pkA an] with
              | nil => simp at hq
              | cons p tl => exact ⟨p, tl, Lib.hid rfl⟩
            rw [hp.out] at HT7
            have hpl : Hid ((p :: tl).length ≤ 1073741824) := by rw [← hp.out]; exact Lib.hid (by have := hLl.out; have := hMl.out; simp; omega)
            clear x0 x1 x2 HT6 HB6 HANS6 h7
            refine (take_yes w.heap.size w1.heap.size v6 (p :: tl) p 0 rfl w7 HT7.out.net hpl.out).mono ?_
            rintro e w8 ⟨rfl, hg⟩
            obtain ⟨v8, hT8⟩ := HT7.out.go hg
            have HT8 := Lib.hid hT8
            have HB8 := Lib.hid (HT7.out.goB hg HB7.out (Nat.le_refl _))
            have HANS8 := Lib.hid (HT7.out.net.keeps hg HANS7.out (by decide) (by decide))
            rw [List.eraseIdx_cons_zero] at HT8
            clear hg hT8 HT7 HB7 HANS7 hpl
            obtain ⟨pb, ⟨mr, mk, mt, ma, mm, mc, mp⟩, ⟨ar, ak, at'⟩⟩ := p
            dsimp only [Pk.cs]
            have HT9 := Lib.hid (HT8.out.alloc (.cells #[.bool pb, .int .i64 mr, .int .i64 mk, .string mt, .int .i64 ma, .int .i64 mm, .string mc, .string mp, .int .i64 ar, .int .i64 ak, .string at'] 40))
            have HB9 := Lib.hid (HB8.out.alloc HB8.out.size (.cells #[.bool pb, .int .i64 mr, .int .i64 mk, .string mt, .int .i64 ma, .int .i64 mm, .string mc, .string mp, .int .i64 ar, .int .i64 ak, .string at'] 40))
            have HANS9 := Lib.hid (HANS8.out.alloc (.cells #[.bool pb, .int .i64 mr, .int .i64 mk, .string mt, .int .i64 ma, .int .i64 mm, .string mc, .string mp, .int .i64 ar, .int .i64 ak, .string at'] 40))
            have hlb4 : Hid (O.length + 1 ≤ 274877906944) := Lib.hid (by have h1 := HI.out; have h2 := HIl.out; have h3 := HD.out; have h4 := HN.out; rw [h1, List.length_append] at h2; omega)
            go_wp2_with (at_builtin; refine EP.wpList_app rfl _ _ (by rfl) w.heap.size _ _ [⟨pb, ⟨mr, mk, mt, ma, mm, mc, mp⟩, ⟨ar, ak, at'⟩⟩] (w8.alloc (.cells #[.bool pb, .int .i64 mr, .int .i64 mk, .string mt, .int .i64 ma, .int .i64 mm, .string mc, .string mp, .int .i64 ar, .int .i64 ak, .string at'] 40)) _ (by rfl) HT9.out.o _ 1 (by rfl) (by rfl) (by simp) (by rfl) hlb4.out HB9.out.size ?_; intro ad9 n9 c9 w9 h9)
            have HT10 := Lib.hid (HT9.out.app_o h9.out)
            have HB10 := Lib.hid (h9.out.below HT9.out.o HB9.out HB9.out.size)
            have HANS10 := Lib.hid (h9.out.upd.blk HANS9.out (HT9.out.o.apart HANS9.out (by decide)))
            go_roundw
            case rel =>
              refine ⟨k + 1, _, _, _, _, _, _, _, _, _, by omega, by go_num, rfl, rfl, rfl, Lib.hid ⟨v8, tl, _, _, d + j, HT10.out, ?_, ?_, ?_, hR2.out, ?_, hA2n.out, HANS10.out, HB10.out⟩⟩
              · rw [HI.out, List.append_assoc, List.append_assoc, List.append_assoc, List.singleton_append, ← hp.out, List.append_assoc]
              · have h2 := HIl.out; have h3 := hMl.out; simp only [List.length_append, List.length_singleton]; omega
              · have := HD.out; omega
              · omega
            case measure => simp [intOf]; omega
    · have hkm2 : ¬ (k : Int) < (m : Int) := by omega
      obtain ⟨v, L, I, O, d, hT, hI, hIl, hd, _, _, _, _, hB⟩ := hO.out
      have HT := Lib.hid hT
      have HI := Lib.hid hI
      have HB := Lib.hid hB
      have hIb : Hid (I.length ≤ 33554432) := Lib.hid (by have := HN.out; omega)
      have hin : Hid (I.length = ni ∧ ni ≤ ci) := Lib.hid hT.i.len_eq
      have hnb : ni ≤ 33554432 := by have := hin.out.1; have := hIb.out; omega
      clear hT hI hIl hd hB hO HZ HR HN HNIL HLE
      go_wp2_with fail
      go_loopw [9] (fun v9 wr => ∃ (oad : Option Addr) (no co : Nat) (v : Value) (L O : List Pk), v9 = .slice oad no co ∧ Hid (Tri wr w.heap.size w1.heap.size v L (.slice iad ni ci) I (.slice oad no co) O) ∧ Hid (I = O ++ L) ∧ Hid (Below w.heap.size w wr)) (fun v9 _ => ni + 1 - lenS v9)
      case atStart => exact ⟨_, _, _, v, L, O, rfl, HT, HI, HB⟩
      case round =>
        obtain ⟨oad, no, co, v2, L2, O2, rfl, HT2, HI2, HB2⟩ := hrel
        clear HT HI HB
        obtain ⟨ln, hln⟩ : ∃ ln, Hid (L2.length = ln) := ⟨_, Lib.hid rfl⟩
        have hon : no + ln = ni := by have h1 := HT2.out.o.len_eq.1; have h2 := hin.out.1; have h3 := HI2.out; have h4 := hln.out; rw [h3, List.length_append] at h2; omega
        by_cases hl0 : 0 < ln
        · have hl1 : (0 : Int) < (ln : Int) := by omega
          have hno : (no : Int) ≤ (ni : Int) := by omega
          obtain ⟨p, tl, hp⟩ : ∃ p tl, Hid (L2 = p :: tl) := by
            cases hq : L2 with
            | nil => rw [hq] at hln; have := hln.out; simp at this; omega
            | cons p tl => exact ⟨p, tl, Lib.hid rfl⟩
          go_wp2_with fail
          refine (len_any w.heap.size w1.heap.size v2 L2 wr HT2.out.net).mono ?_
          rintro e w9 ⟨rfl, rfl⟩
          rw [hln.out]
          rw [hp.out] at HT2
          have hpl : Hid ((p :: tl).length ≤ 1073741824) := by rw [← hp.out, hln.out]; exact Lib.hid (by omega)
          go_wp2_with fail
          refine (take_yes w.heap.size w1.heap.size v2 (p :: tl) p 0 rfl wr HT2.out.net hpl.out).mono ?_
          rintro e w8 ⟨rfl, hg⟩
          obtain ⟨v8, hT8⟩ := HT2.out.go hg
          have HT8 := Lib.hid hT8
          have HB8 := Lib.hid (HT2.out.goB hg HB2.out (Nat.le_refl _))
          rw [List.eraseIdx_cons_zero] at HT8
          clear hg hT8 HT2 HB2 hpl
          obtain ⟨pb, ⟨mr, mk, mt, ma, mm, mc, mp⟩, ⟨ar, ak, at'⟩⟩ := p
          dsimp only [Pk.cs]
          have HT9 := Lib.hid (HT8.out.alloc (.cells #[.bool pb, .int .i64 mr, .int .i64 mk, .string mt, .int .i64 ma, .int .i64 mm, .string mc, .string mp, .int .i64 ar, .int .i64 ak, .string at'] 40))
          have HB9 := Lib.hid (HB8.out.alloc HB8.out.size (.cells #[.bool pb, .int .i64 mr, .int .i64 mk, .string mt, .int .i64 ma, .int .i64 mm, .string mc, .string mp, .int .i64 ar, .int .i64 ak, .string at'] 40))
          have hlb4 : Hid (O2.length + 1 ≤ 274877906944) := Lib.hid (by have h1 := HT8.out.o.len_eq.1; omega)
          go_wp2_with (at_builtin; refine EP.wpList_app rfl _ _ (by rfl) w.heap.size _ _ [⟨pb, ⟨mr, mk, mt, ma, mm, mc, mp⟩, ⟨ar, ak, at'⟩⟩] (w8.alloc (.cells #[.bool pb, .int .i64 mr, .int .i64 mk, .string mt, .int .i64 ma, .int .i64 mm, .string mc, .string mp, .int .i64 ar, .int .i64 ak, .string at'] 40)) _ (by rfl) HT9.out.o _ 1 (by rfl) (by rfl) (by simp) (by rfl) hlb4.out HB9.out.size ?_; intro ad9 n9 c9 w9 h9)
          have HT10 := Lib.hid (HT9.out.app_o h9.out)
          have HB10 := Lib.hid (h9.out.below HT9.out.o HB9.out HB9.out.size)
          have hn9 : n9 = no + 1 := by have h1 := HT10.out.o.len_eq.1; have h2 := HT9.out.o.len_eq.1; simp at h1; omega
          have HI10 : Hid (I = (O2 ++ [⟨pb, ⟨mr, mk, mt, ma, mm, mc, mp⟩, ⟨ar, ak, at'⟩⟩]) ++ tl) := Lib.hid (by rw [HI2.out, hp.out]; simp)
          subst hn9
          go_roundw
          case rel => exact ⟨_, _, _, v8, tl, _, rfl, HT10, HI10, HB10⟩
          case measure => simp [lenS]; omega
        · obtain rfl : ln = 0 := by omega
          have hne : ((ni : Int) != (no : Int)) = false := by simp; omega
          obtain rfl : L2 = [] := List.eq_nil_of_length_eq_zero hln.out
          have HI3 : Hid (I = O2) := Lib.hid (by have := HI2.out; simpa using this)
          go_wp2_with fail
          refine (len_any w.heap.size w1.heap.size v2 [] wr HT2.out.net).mono ?_
          rintro e w9 ⟨rfl, rfl⟩
          dsimp only [List.length_nil]
          go_wp2_with fail
          go_loopw [110] (fun i wr2 => ∃ j : Nat, j ≤ ni ∧ i = .int .i64 j ∧ Hid (Below wr.heap.size wr wr2)) (fun i _ => ni - (intOf i).toNat)
          case atStart => exact ⟨0, by omega, rfl, Lib.hid (Below.refl _ _)⟩
          case round =>
            rename_i wr3
            obtain ⟨j, hj, rfl, hW⟩ := hrel
            by_cases hjn : j < ni
            · have hjn2 : (j : Int) < (ni : Int) := by omega
              have hjn3 : (j : Int) < (no : Int) := by omega
              obtain ⟨p, hp⟩ : ∃ p, Hid (I[j]? = some p) := ⟨I[j]'(by rw [hin.out.1]; exact hjn), Lib.hid (by simp)⟩
              obtain ⟨b1, o1, e1, hl1, c0, c1, c2, c3, c4, c5, c6, c7, c8, c9, c10⟩ := rdP (HT2.out.i.rd.later hW.out) j p hp.out
              obtain ⟨b2, o2, e2, hl2, d0, d1, d2, d3, d4, d5, d6, d7, d8, d9, d10⟩ := rdP (HT2.out.o.rd.later hW.out) j p (by rw [← HI3.out]; exact hp.out)
              obtain ⟨pb, ⟨mr, mk, mt, ma, mm, mc, mp⟩, ⟨ar, ak, at'⟩⟩ := p
              dsimp only at c0 c1 c2 c3 c4 c5 c6 c7 c8 c9 c10 d0 d1 d2 d3 d4 d5 d6 d7 d8 d9 d10
              subst e1 e2
              clear hl1 hl2
              go_wp2_with fail
              go_quiet (fail)
              go_wp2_with fail
              go_roundw
              case rel => exact ⟨j + 1, by omega, by go_num, Lib.hid ⟨hW.out.os, hW.out.tape, hW.out.output, hW.out.size, hW.out.block⟩⟩
              case measure => simp [intOf]; omega
            · have hjn2 : ¬ (j : Int) < (ni : Int) := by omega
              go_wp2_with fail
              go_ret
              exact ⟨rfl, HB2.out.trans (hW.out.mono HB2.out.size)⟩
end Go.Proofs.Ytlnhpeghgabnkaa
