/-
  Layer 25: the walk of NetFair.
-/
import Derived.Test.YtlnhpeghgabnkaaScript
import Derived.Test.YtlnhpeghgabnkaaThere
import Derived.Test.YtlnhpeghgabnkaaOrder
import Derived.Lib.QuietBelow
namespace Go.Proofs.Ytlnhpeghgabnkaa
open Go.RowKit
attribute [local go_sem ↓] Go.wp_at_zero Go.wp_at_succ

/-- Where NetFair's first loop stands. -/
def Fr (w : World) (bn : Nat) (wr : World) (ops : List Opv) (k : Nat) (vi vo : Value) : Prop :=
  ∃ (v : Value) (L I O : List Pk), Tri wr w.heap.size bn v L vi I vo O ∧ List.Perm I (O ++ L) ∧ I.length ≤ opSum (ops.take k) ∧ Below w.heap.size w wr
theorem now_keeps {w w' : World} {B bn n0 : Nat} {v nv : Value} {l l' ln : List Pk} (h : NetAt w B bn v l) (hg : NetGo B bn v l' w w') (hn : EP.Own w n0 nv ln) (hlt : ∀ k, v.ownBlock = some k → B ≤ k ∧ k < n0) : EP.Own w' n0 nv ln := by
  obtain ⟨_, _, h2, _⟩ := hg
  refine hn.upd h2 fun g hg e => ?_
  rcases e with rfl | e
  · exact hn.apart h.blk (by decide) hg
  · have := (hn.lt g hg).1
    have := (hlt g e).2
    omega
theorem perm_snoc {I O L : List Pk} (M : List Pk) (h : List.Perm I (O ++ L)) : List.Perm (I ++ M) (O ++ (L ++ M)) := by
  rw [← List.append_assoc]
  exact h.append_right M
theorem perm_out {I O L : List Pk} (j : Nat) (p : Pk) (hp : L[j]? = some p) (h : List.Perm I (O ++ L)) : List.Perm I ((O ++ [p]) ++ L.eraseIdx j) := by
  rw [List.append_assoc]
  exact h.trans ((eraseIdx_perm L j p hp).append_left O)
theorem no_has (n : Nat) (i : Int) (h : ¬ ∃ j : Nat, i = (j : Int) ∧ j < n) : hasB n i = false := by
  by_cases h0 : 0 ≤ i
  · by_cases h1 : i < (n : Int)
    · exact absurd ⟨i.toNat, by omega, by omega⟩ h
    · simp [hasB]; omega
  · simp [hasB]; omega
set_option maxRecDepth 100000 in
set_option maxHeartbeats 16000000 in
theorem fair_law (ad : Option Addr) (n cap : Nat) (ops : List Opv) (w : World) (hn : ops.length = n) (hr : EO.Rd w w.heap.size ad ops) (hok : ∀ o ∈ ops, OpOk w o) (hsum : opSum ops ≤ 16777216) :
    Calls Try.prog 4 #[.slice ad n cap] w fun e w' => e = .returned (.bool true) ∧ Below w.heap.size w w' := by
  have hn5 : n ≤ 16777216 := by
    have : ops.length ≤ opSum ops := by
      clear hn hr hok hsum
      induction ops with
      | nil => simp [opSum]
      | cons o l ih => simp [opSum] at ih ⊢; omega
    omega
  have HR := Lib.hid hr
  have HN := Lib.hid hn
  have HOK := Lib.hid hok
  have HS := Lib.hid hsum
  clear hn hr hok hsum
  go_enter Try.func4, Try.ntmps4
  go_wp2_with fail
  refine (fixed_any _).mono ?_
  rintro e w1 ⟨rfl, hb⟩
  have HB1 := Lib.hid hb
  clear hb
  go_wp2_with fail
  refine (new_any w1).mono ?_
  rintro e w9 ⟨rfl, rfl⟩
  obtain ⟨w2, hw2⟩ : ∃ W, Hid (w1.alloc (.cells #[.slice none 0 0] 57) = W) := ⟨_, Lib.hid rfl⟩
  have hA2 : Hid (NetAt w2 w.heap.size w1.heap.size (.slice none 0 0) []) := by rw [← hw2.out]; exact Lib.hid (net_new w1 w.heap.size HB1.out.size)
  have HB2 : Hid (Below w.heap.size w w2) := by rw [← hw2.out]; exact Lib.hid (HB1.out.alloc HB1.out.size _)
  rw [hw2.out]
  go_wp2_with fail
  go_loopw [4, 5, 26] (fun v4 v5 i wr => ∃ (k : Nat) (iad oad : Option Addr) (ni ci no co : Nat), k ≤ n ∧ i = .int .i64 k ∧ v4 = .slice iad ni ci ∧ v5 = .slice oad no co ∧ Hid (Fr w w1.heap.size wr ops k (.slice iad ni ci) (.slice oad no co))) (fun _ _ i _ => n - (intOf i).toNat)
  case atStart =>
    exact ⟨0, _, _, _, _, _, _, by omega, rfl, rfl, rfl, Lib.hid ⟨.slice none 0 0, [], [], [], ⟨hA2.out, Elt.Own.nil _ _ _, Elt.Own.nil _ _ _, Apart.nil _ _ _, Apart.nil _ _ _, Apart.nil _ _ _⟩, List.Perm.refl _, Nat.zero_le _, HB2.out⟩⟩
  case round =>
    obtain ⟨k, iad, oad, ni, ci, no, co, hk, rfl, rfl, rfl, hO⟩ := hrel
    clear hA2 HB2 HB1 hw2
    by_cases hkn : k < n
    · have hkn2 : (k : Int) < (n : Int) := by omega
      obtain ⟨v, L, I, O, hT, hP, hIl, hB⟩ := hO.out
      obtain ⟨o, ho⟩ : ∃ o, Hid (ops[k]? = some o) := ⟨ops[k]'(by rw [HN.out]; exact hkn), Lib.hid (by simp)⟩
      obtain ⟨b, off, rfl, hblt, c0, c1, c2, c3, c4, c5, c6⟩ := rdO (HR.out.below hB (Nat.le_refl _)) k o ho.out
      have hblt2 : b < wr.heap.size := Nat.lt_of_lt_of_le hblt hB.size
      have HOo := Lib.hid (HOK.out o (List.mem_of_getElem? ho.out))
      have hIl2 := opSum_take ops k o ho.out
      have hIl3 := opSum_le ops (k + 1)
      have HIL := Lib.hid (show I.length + o.ln + 1 ≤ opSum (ops.take (k + 1)) ∧ I.length + o.ln + 1 ≤ 16777216 from ⟨by omega, by have := HS.out; omega⟩)
      have HLl := Lib.hid (show L.length ≤ 16777216 ∧ O.length ≤ 16777216 from by
        have h1 := hP.length_eq
        rw [List.length_append] at h1
        have h2 := HIL.out
        exact ⟨by omega, by omega⟩)
      obtain ⟨ok, os, oi, la, ln, lc, ⟨oar, oak, oat⟩, ms⟩ := o
      dsimp only at c0 c1 c2 c3 c4 c5 c6
      have HT := Lib.hid (hT.alloc (.cells #[.int .i64 ok, .bool os, .int .i64 oi, .slice la ln lc, .int .i64 oar, .int .i64 oak, .string oat] 31))
      have HP := Lib.hid hP
      have HB := Lib.hid (hB.alloc hB.size (.cells #[.int .i64 ok, .bool os, .int .i64 oi, .slice la ln lc, .int .i64 oar, .int .i64 oak, .string oat] 31))
      have HOP := Lib.hid (Blk.new wr #[.int .i64 ok, .bool os, .int .i64 oi, .slice la ln lc, .int .i64 oar, .int .i64 oak, .string oat] 31)
      clear hT hP hIl hB hO hIl2 hIl3 hblt
      go_wp2_with fail
      refine (there_any w.heap.size w1.heap.size v L _ HT.out.net (by have := HLl.out; omega)).mono ?_
      rintro e w3 ⟨nad, nn, ncap, rfl, hnl, hnc, hno, hb⟩
      have HT3 := Lib.hid (HT.out.below hb)
      have HB3 := Lib.hid (HB.out.trans (hb.mono HB.out.size))
      have HOP3 := Lib.hid (HOP.out.below hb HOP.out.lt)
      have HNW := Lib.hid hno
      have HNL := Lib.hid hnl
      have hnn : nn ≤ 16777216 := by have := HLl.out; omega
      have HSZ := Lib.hid (HT.out.net.own.lt)
      clear hnl hno hb c0 c1 c2 c3 c4 c5 c6 HT HB HOP
      obtain ⟨c0, c1, c2, c3, c4, c5, c6⟩ := msg_cells HOP3.out
      go_upto_region 13 with fail
      go_cut [10] (fun v wx => v = .bool (hasB nn oi) ∧ Hid (wx = w3))
      case first =>
        by_cases h0 : oi < 0
        · have hh : Hid (hasB nn oi = false) := Lib.hid (by simp [hasB]; omega)
          go_wp2_with fail
          all_goals
            go_meet
            exact ⟨by rw [hh.out], Lib.hid rfl⟩
        · have h00 : 0 ≤ oi := by omega
          by_cases h1 : oi < (nn : Int)
          · have hh : Hid (hasB nn oi = true) := Lib.hid (by simp [hasB]; omega)
            go_wp2_with fail
            all_goals
              go_meet
              exact ⟨by rw [hh.out], Lib.hid rfl⟩
          · have hh : Hid (hasB nn oi = false) := Lib.hid (by simp [hasB]; omega)
            go_wp2_with fail
            all_goals
              go_meet
              exact ⟨by rw [hh.out], Lib.hid rfl⟩
      case rest =>
        obtain ⟨rfl, hwx⟩ := hcut
        obtain rfl : w3 = wc := hwx.out.symm
        clear hwx
        by_cases e1 : ok = 1
        · subst e1
          have HML : Hid (ms.length = ln) := Lib.hid HOo.out.len
          have HRD : Hid (EM.Rd w w.heap.size la ms) := Lib.hid HOo.out.rd
          have HLN : Hid (la = none → lc = 0) := Lib.hid HOo.out.nil
          have hln5 : ln ≤ 16777216 := by have := HIL.out; omega
          clear HOo HNW HSZ HNL
          generalize hbo : wr.heap.size = bo at HOP3 c0 c1 c2 c3 c4 c5 c6 ⊢
          go_wp2_with fail
          go_loopw [4, 54] (fun v4 i wl => ∃ (j : Nat) (iad' : Option Addr) (ni' ci' : Nat), j ≤ ln ∧ i = .int .i64 j ∧ v4 = .slice iad' ni' ci' ∧ Hid (Tri wl w.heap.size w1.heap.size v L (.slice iad' ni' ci') (I ++ (ms.take j).map pkM) (.slice oad no co) O) ∧ Hid (Blk wl bo 31 #[.int .i64 1, .bool os, .int .i64 oi, .slice la ln lc, .int .i64 oar, .int .i64 oak, .string oat]) ∧ Hid (Below w.heap.size w wl)) (fun _ i _ => ln - (intOf i).toNat)
          case atStart => exact ⟨0, _, _, _, by omega, rfl, rfl, by rw [List.take_zero, List.map_nil, List.append_nil]; exact HT3, HOP3, HB3⟩
          case round =>
            obtain ⟨j, iad', ni', ci', hj, rfl, rfl, HT5, HOP5, HB5⟩ := hrel
            clear HT3 HOP3 HB3 c0 c1 c2 c3 c4 c5 c6
            by_cases hjq : j < ln
            · have hjq2 : (j : Int) < (ln : Int) := by omega
              obtain ⟨mm, hm⟩ : ∃ mm, Hid (ms[j]? = some mm) := ⟨ms[j]'(by rw [HML.out]; exact hjq), Lib.hid (by simp)⟩
              obtain ⟨b3, o3, e3, hl3, y0, y1, y2, y3, y4, y5, y6⟩ := rdM (HRD.out.below HB5.out (Nat.le_refl _)) j mm hm.out
              have hnx := Lib.hid (take_succ_map pkM ms j mm hm.out)
              have hl9 := Nat.lt_of_lt_of_le hl3 HB5.out.size
              have hlb2 : Hid ((I ++ (ms.take j).map pkM).length + 1 ≤ 274877906944) := Lib.hid (by have h2 := HIL.out; rw [List.length_append, List.length_map, List.length_take]; omega)
              obtain ⟨r', k', t', a', m', q', p'⟩ := mm
              dsimp only at y0 y1 y2 y3 y4 y5 y6
              subst e3
              have HT6 := Lib.hid (HT5.out.alloc (.cells #[.int .i64 r', .int .i64 k', .string t', .int .i64 a', .int .i64 m', .string q', .string p'] 38))
              have HOP6 := Lib.hid (HOP5.out.alloc (.cells #[.int .i64 r', .int .i64 k', .string t', .int .i64 a', .int .i64 m', .string q', .string p'] 38))
              have HB6 := Lib.hid (HB5.out.alloc HB5.out.size (.cells #[.int .i64 r', .int .i64 k', .string t', .int .i64 a', .int .i64 m', .string q', .string p'] 38))
              go_wp2_with (at_builtin; refine EP.wpList_app rfl _ _ (by rfl) w.heap.size _ _ [pkM ⟨r', k', t', a', m', q', p'⟩] (wr.alloc (.cells #[.int .i64 r', .int .i64 k', .string t', .int .i64 a', .int .i64 m', .string q', .string p'] 38)) _ (by rfl) HT6.out.i _ 1 (by rfl) (by rfl) (by simp) (by rfl) hlb2.out HB6.out.size ?_; intro ad9 n9 c9 w9 h9)
              have HT7 := Lib.hid (HT6.out.app_i h9.out)
              have HB7 := Lib.hid (h9.out.below HT6.out.i HB6.out HB6.out.size)
              have HOP7 := Lib.hid (h9.out.upd.blk HOP6.out (HT6.out.i.apart HOP6.out (by decide)))
              go_roundw
              case rel => exact ⟨j + 1, _, _, _, by omega, by go_num, rfl, by rw [hnx.out, ← List.append_assoc]; exact HT7, HOP7, HB7⟩
              case measure => simp [intOf]; omega
            · have hjq2 : ¬ (j : Int) < (ln : Int) := by omega
              obtain rfl : j = ln := by omega
              rw [List.take_of_length_le (by rw [HML.out]; exact Nat.le_refl _)] at HT5
              have hcl := HOP5.out.lt
              obtain ⟨c0, c1, c2, c3, c4, c5, c6⟩ := msg_cells HOP5.out
              have hl0 := Lib.hid (own_litM wr wr.heap.size (Nat.le_refl _))
              have hbl := Lib.hid ((Below.refl wr.heap.size wr).alloc (Nat.le_refl _) (.cells #[] 38))
              have hrd := Lib.hid ((HRD.out.below (HB5.out.alloc HB5.out.size (.cells #[] 38)) (Nat.le_refl _)).mono (by have := HB5.out.size; simp; omega : w.heap.size ≤ (wr.alloc (.cells #[] 38)).heap.size))
              go_wp2_with (at_builtin; refine EM.wpList_appL rfl _ _ (by rfl) wr.heap.size _ [] ms _ (by rfl) hl0.out la j lc (by rfl) HML.out hrd.out HLN.out (by have := HML.out; simp only [List.length_nil]; omega) (by simp) ?_; intro ad2 n2 cc2 w6 h2; rw [List.nil_append] at h2)
              have hb3 := Lib.hid (h2.out.below hl0.out hbl.out (by simp))
              have HT6 := Lib.hid (HT5.out.below hb3.out)
              have HB6 := Lib.hid (HB5.out.trans (hb3.out.mono HB5.out.size))
              clear hrd hl0 hbl c0 c1 c2 c3 c4 c5 c6
              refine (send_any w.heap.size w1.heap.size v L ad2 n2 cc2 ms w6 HT6.out.net HB6.out.size h2.out.own.len_eq.1 h2.out.own.rd (sep_msgs HT6.out.net h2.out.own) (by have h1 := h2.out.own.len_eq.1; have h3 := HML.out; have h4 := HLl.out; omega)).mono ?_
              rintro e w8 ⟨rfl, hg⟩
              obtain ⟨v8, hT8⟩ := HT6.out.go hg
              have HT8 := Lib.hid hT8
              have HB8 := Lib.hid (HT6.out.goB hg HB6.out (Nat.le_refl _))
              clear hg hT8 h2 hb3 HT6 HB6 HT5 HB5 HOP5
              go_wp2_with fail
              go_roundw
              case rel => exact ⟨k + 1, _, _, _, _, _, _, by omega, by go_num, rfl, rfl, Lib.hid ⟨v8, _, _, _, HT8.out, perm_snoc _ HP.out, by have := HIL.out; have := HML.out; rw [List.length_append, List.length_map]; omega, HB8.out⟩⟩
              case measure => simp [intOf]; omega
        by_cases e2 : ok = 2
        · subst e2
          have hlb : Hid (I.length + 1 ≤ 274877906944) := Lib.hid (by have := HIL.out; omega)
          go_wp2_with (at_builtin; refine EP.wpList_app rfl _ _ (by rfl) w.heap.size _ _ [pkA ⟨oar, oak, oat⟩] w3 _ (by rfl) HT3.out.i _ 1 (by rfl) (by rfl) (by rfl) (by rfl) hlb.out HB3.out.size ?_; intro ad7 n7 c7 w7 h7; have g7 := h7.out.upd.blk HOP3.out (HT3.out.i.apart HOP3.out (by decide)); obtain ⟨c0, c1, c2, c3, c4, c5, c6⟩ := msg_cells g7)
          have HT7 := Lib.hid (HT3.out.app_i h7.out)
          have HB7 := Lib.hid (h7.out.below HT3.out.i HB3.out HB3.out.size)
          clear g7
          refine (reply_any w.heap.size w1.heap.size v L ⟨oar, oak, oat⟩ w7 HT7.out.net HB7.out.size (by have := HLl.out; omega)).mono ?_
          rintro e w8 ⟨rfl, hg⟩
          obtain ⟨v8, hT8⟩ := HT7.out.go hg
          have HT8 := Lib.hid hT8
          have HB8 := Lib.hid (HT7.out.goB hg HB7.out (Nat.le_refl _))
          clear hg hT8 HT7 HB7
          go_wp2_with fail
          go_roundw
          case rel => exact ⟨k + 1, _, _, _, _, _, _, by omega, by go_num, rfl, rfl, Lib.hid ⟨v8, _, _, _, HT8.out, perm_snoc _ HP.out, by have := HIL.out; rw [List.length_append]; simp only [List.length_singleton]; omega, HB8.out⟩⟩
          case measure => simp [intOf]; omega
        by_cases e3 : ok = 3
        · subst e3
          by_cases hy : ∃ j : Nat, oi = (j : Int) ∧ j < nn
          · obtain ⟨j, rfl, hj⟩ := hy
            have hj2 : (j : Int) < (nn : Int) := by omega
            have hh : hasB nn (j : Int) = true := by simp [hasB]; omega
            rw [hh]
            obtain ⟨p, hp⟩ : ∃ p, Hid (L[j]? = some p) := ⟨L[j]'(by rw [HNL.out]; exact hj), Lib.hid (by simp)⟩
            clear hh
            go_wp2_with fail
            refine (take_yes w.heap.size w1.heap.size v L p j hp.out w3 HT3.out.net (by have := HLl.out; omega)).mono ?_
            rintro e w5 ⟨rfl, hg⟩
            obtain ⟨v5, hT5⟩ := HT3.out.go hg
            have HT5 := Lib.hid hT5
            have HB5 := Lib.hid (HT3.out.goB hg HB3.out (Nat.le_refl _))
            have HNW5 := Lib.hid (now_keeps HT3.out.net hg HNW.out HSZ.out)
            have HOP5 := Lib.hid (HT3.out.net.keeps hg HOP3.out (by decide) (by decide))
            clear hg hT5 c0 c1 c2 c3 c4 c5 c6
            obtain ⟨b9, o9, rfl, hbl9, y0, y1, y2, y3, y4, y5, y6, y7, y8, y9, y10⟩ := rdP HNW5.out.rd j p hp.out
            have hcl := HOP5.out.lt
            obtain ⟨c0, c1, c2, c3, c4, c5, c6⟩ := msg_cells HOP5.out
            obtain ⟨pb, ⟨mr, mk, mt, ma, mm, mc, mp⟩, ⟨ar, ak, at'⟩⟩ := p
            dsimp only [Pk.cs]
            dsimp only at y0 y1 y2 y3 y4 y5 y6 y7 y8 y9 y10
            go_wp2_with fail
            go_quiet (fail)
            rename_i nq
            have HT6' := Lib.hid ((HT5.out.alloc (.cells #[.bool pb, .int .i64 mr, .int .i64 mk, .string mt, .int .i64 ma, .int .i64 mm, .string mc, .string mp, .int .i64 ar, .int .i64 ak, .string at'] 40)).drewN nq)
            have HB6' : Hid (Below w.heap.size w ((w5.alloc (.cells #[.bool pb, .int .i64 mr, .int .i64 mk, .string mt, .int .i64 ma, .int .i64 mm, .string mc, .string mp, .int .i64 ar, .int .i64 ak, .string at'] 40)).drewN nq)) := Lib.hid (by have h := HB5.out.alloc HB5.out.size (.cells #[.bool pb, .int .i64 mr, .int .i64 mk, .string mt, .int .i64 ma, .int .i64 mm, .string mc, .string mp, .int .i64 ar, .int .i64 ak, .string at'] 40); exact ⟨h.os, h.tape, h.output, h.size, h.block⟩)
            have HX6' : Hid (Blk ((w5.alloc (.cells #[.bool pb, .int .i64 mr, .int .i64 mk, .string mt, .int .i64 ma, .int .i64 mm, .string mc, .string mp, .int .i64 ar, .int .i64 ak, .string at'] 40)).drewN nq) w5.heap.size 40 #[.bool pb, .int .i64 mr, .int .i64 mk, .string mt, .int .i64 ma, .int .i64 mm, .string mc, .string mp, .int .i64 ar, .int .i64 ak, .string at']) := Lib.hid (Blk.new w5 #[.bool pb, .int .i64 mr, .int .i64 mk, .string mt, .int .i64 ma, .int .i64 mm, .string mc, .string mp, .int .i64 ar, .int .i64 ak, .string at'] 40)
            obtain ⟨W6, hW6⟩ : ∃ W6, Hid ((w5.alloc (.cells #[.bool pb, .int .i64 mr, .int .i64 mk, .string mt, .int .i64 ma, .int .i64 mm, .string mc, .string mp, .int .i64 ar, .int .i64 ak, .string at'] 40)).drewN nq = W6) := ⟨_, Lib.hid rfl⟩
            rw [hW6.out] at HT6' HB6' HX6' ⊢
            clear y0 y1 y2 y3 y4 y5 y6 y7 y8 y9 y10 c0 c1 c2 c3 c4 c5 c6
            obtain ⟨e0, e1, e2, e3, e4, e5, e6, e7, e8, e9, e10⟩ := pk_cells HX6'.out
            have hlb : Hid (O.length + 1 ≤ 274877906944) := Lib.hid (by have := HLl.out; omega)
            go_wp2_with (at_builtin; refine EP.wpList_app rfl _ _ (by rfl) w.heap.size _ _ [⟨pb, ⟨mr, mk, mt, ma, mm, mc, mp⟩, ⟨ar, ak, at'⟩⟩] W6 _ (by rfl) HT6'.out.o _ 1 (by rfl) (by rfl) (by rfl) (by rfl) hlb.out HB6'.out.size ?_; intro ad7 n7 c7 w7 h7)
            have HT7 := Lib.hid (HT6'.out.app_o h7.out)
            have HB7 := Lib.hid (h7.out.below HT6'.out.o HB6'.out HB6'.out.size)
            go_roundw
            case rel => exact ⟨k + 1, _, _, _, _, _, _, by omega, by go_num, rfl, rfl, Lib.hid ⟨v5, _, _, _, HT7.out, perm_out j _ hp.out HP.out, by have := HIL.out; omega, HB7.out⟩⟩
            case measure => simp [intOf]; omega
          · have hh : hasB nn oi = false := no_has nn oi hy
            rw [hh]
            have HH := Lib.hid hh
            clear hh hy
            go_wp2_with fail
            refine (take_no w.heap.size w1.heap.size v L nn HNL.out oi HH.out w3 HT3.out.net).mono ?_
            rintro e w5 ⟨rfl, hb⟩
            have HT5 := Lib.hid (HT3.out.below hb)
            have HB5 := Lib.hid (HB3.out.trans (hb.mono HB3.out.size))
            simp only [Pk.zero, Msg.zero, Ans.zero, Pk.cs]
            have HX6' := Lib.hid (Blk.new w5 #[.bool false, .int .i64 0, .int .i64 0, .string ⟨#[]⟩, .int .i64 0, .int .i64 0, .string ⟨#[]⟩, .string ⟨#[]⟩, .int .i64 0, .int .i64 0, .string ⟨#[]⟩] 40)
            obtain ⟨e0, e1, e2, e3, e4, e5, e6, e7, e8, e9, e10⟩ := pk_cells HX6'.out
            clear hb c0 c1 c2 c3 c4 c5 c6
            go_wp2_with fail
            go_quiet (fail)
            rename_i nq
            go_wp2_with fail
            go_roundw
            case rel => exact ⟨k + 1, _, _, _, _, _, _, by omega, by go_num, rfl, rfl, Lib.hid ⟨v, L, I, O, (HT5.out.alloc _).drewN _, HP.out, by have := HIL.out; omega, by have h := HB5.out.alloc HB5.out.size (.cells #[.bool false, .int .i64 0, .int .i64 0, .string ⟨#[]⟩, .int .i64 0, .int .i64 0, .string ⟨#[]⟩, .string ⟨#[]⟩, .int .i64 0, .int .i64 0, .string ⟨#[]⟩] 40); exact ⟨h.os, h.tape, h.output, h.size, h.block⟩⟩⟩
            case measure => simp [intOf]; omega
        by_cases e4 : ok = 4
        · subst e4
          by_cases hy : ∃ j : Nat, oi = (j : Int) ∧ j < nn
          · obtain ⟨j, rfl, hj⟩ := hy
            have hj2 : (j : Int) < (nn : Int) := by omega
            have hh : hasB nn (j : Int) = true := by simp [hasB]; omega
            rw [hh]
            obtain ⟨p, hp⟩ : ∃ p, Hid (L[j]? = some p) := ⟨L[j]'(by rw [HNL.out]; exact hj), Lib.hid (by simp)⟩
            clear hh
            go_wp2_with fail
            refine (lose_yes w.heap.size w1.heap.size v L p j hp.out w3 HT3.out.net (by have := HLl.out; omega)).mono ?_
            rintro e w5 ⟨rfl, hg⟩
            obtain ⟨v5, hT5⟩ := HT3.out.go hg
            have HT5 := Lib.hid hT5
            have HB5 := Lib.hid (HT3.out.goB hg HB3.out (Nat.le_refl _))
            have HNW5 := Lib.hid (now_keeps HT3.out.net hg HNW.out HSZ.out)
            have HOP5 := Lib.hid (HT3.out.net.keeps hg HOP3.out (by decide) (by decide))
            clear hg hT5 c0 c1 c2 c3 c4 c5 c6
            obtain ⟨b9, o9, rfl, hbl9, y0, y1, y2, y3, y4, y5, y6, y7, y8, y9, y10⟩ := rdP HNW5.out.rd j p hp.out
            have hcl := HOP5.out.lt
            obtain ⟨c0, c1, c2, c3, c4, c5, c6⟩ := msg_cells HOP5.out
            obtain ⟨pb, ⟨mr, mk, mt, ma, mm, mc, mp⟩, ⟨ar, ak, at'⟩⟩ := p
            dsimp only at y0 y1 y2 y3 y4 y5 y6 y7 y8 y9 y10
            have hlb : Hid (O.length + 1 ≤ 274877906944) := Lib.hid (by have := HLl.out; have := HIL.out; omega)
            go_wp2_with (at_builtin; refine EP.wpList_app rfl _ _ (by rfl) w.heap.size _ _ [⟨pb, ⟨mr, mk, mt, ma, mm, mc, mp⟩, ⟨ar, ak, at'⟩⟩] w5 _ (by rfl) HT5.out.o _ 1 (by rfl) (by rfl) (by rfl) (by rfl) hlb.out HB5.out.size ?_; intro ad7 n7 c7 w7 h7)
            have HT7 := Lib.hid (HT5.out.app_o h7.out)
            have HB7 := Lib.hid (h7.out.below HT5.out.o HB5.out HB5.out.size)
            go_roundw
            case rel => exact ⟨k + 1, _, _, _, _, _, _, by omega, by go_num, rfl, rfl, Lib.hid ⟨v5, _, _, _, HT7.out, perm_out j _ hp.out HP.out, by have := HIL.out; omega, HB7.out⟩⟩
            case measure => simp [intOf]; omega
          · have hh : hasB nn oi = false := no_has nn oi hy
            rw [hh]
            have HH := Lib.hid hh
            clear hh hy
            go_wp2_with fail
            refine (lose_no w.heap.size w1.heap.size v L nn HNL.out oi HH.out w3 HT3.out.net).mono ?_
            rintro e w5 ⟨rfl, hb⟩
            have HT5 := Lib.hid (HT3.out.below hb)
            have HB5 := Lib.hid (HB3.out.trans (hb.mono HB3.out.size))
            clear hb
            go_wp2_with fail
            go_roundw
            case rel => exact ⟨k + 1, _, _, _, _, _, _, by omega, by go_num, rfl, rfl, Lib.hid ⟨v, L, I, O, HT5.out, HP.out, by have := HIL.out; omega, HB5.out⟩⟩
            case measure => simp [intOf]; omega
        by_cases e5 : ok = 5
        · subst e5
          by_cases hy : ∃ j : Nat, oi = (j : Int) ∧ j < nn
          · obtain ⟨j, rfl, hj⟩ := hy
            have hj2 : (j : Int) < (nn : Int) := by omega
            have hh : hasB nn (j : Int) = true := by simp [hasB]; omega
            rw [hh]
            obtain ⟨p, hp⟩ : ∃ p, Hid (L[j]? = some p) := ⟨L[j]'(by rw [HNL.out]; exact hj), Lib.hid (by simp)⟩
            clear hh
            go_wp2_with fail
            refine (double_yes w.heap.size w1.heap.size v L p j hp.out w3 HT3.out.net HB3.out.size (by have := HLl.out; omega)).mono ?_
            rintro e w5 ⟨rfl, hg⟩
            obtain ⟨v5, hT5⟩ := HT3.out.go hg
            have HT5 := Lib.hid hT5
            have HB5 := Lib.hid (HT3.out.goB hg HB3.out (Nat.le_refl _))
            have HNW5 := Lib.hid (now_keeps HT3.out.net hg HNW.out HSZ.out)
            have HOP5 := Lib.hid (HT3.out.net.keeps hg HOP3.out (by decide) (by decide))
            clear hg hT5 c0 c1 c2 c3 c4 c5 c6
            obtain ⟨b9, o9, rfl, hbl9, y0, y1, y2, y3, y4, y5, y6, y7, y8, y9, y10⟩ := rdP HNW5.out.rd j p hp.out
            have hcl := HOP5.out.lt
            obtain ⟨c0, c1, c2, c3, c4, c5, c6⟩ := msg_cells HOP5.out
            obtain ⟨pb, ⟨mr, mk, mt, ma, mm, mc, mp⟩, ⟨ar, ak, at'⟩⟩ := p
            dsimp only at y0 y1 y2 y3 y4 y5 y6 y7 y8 y9 y10
            have hlb : Hid (I.length + 1 ≤ 274877906944) := Lib.hid (by have := HLl.out; have := HIL.out; omega)
            go_wp2_with (at_builtin; refine EP.wpList_app rfl _ _ (by rfl) w.heap.size _ _ [⟨pb, ⟨mr, mk, mt, ma, mm, mc, mp⟩, ⟨ar, ak, at'⟩⟩] w5 _ (by rfl) HT5.out.i _ 1 (by rfl) (by rfl) (by rfl) (by rfl) hlb.out HB5.out.size ?_; intro ad7 n7 c7 w7 h7)
            have HT7 := Lib.hid (HT5.out.app_i h7.out)
            have HB7 := Lib.hid (h7.out.below HT5.out.i HB5.out HB5.out.size)
            go_roundw
            case rel => exact ⟨k + 1, _, _, _, _, _, _, by omega, by go_num, rfl, rfl, Lib.hid ⟨v5, _, _, _, HT7.out, perm_snoc _ HP.out, by have := HIL.out; rw [List.length_append]; simp only [List.length_singleton]; omega, HB7.out⟩⟩
            case measure => simp [intOf]; omega
          · have hh : hasB nn oi = false := no_has nn oi hy
            rw [hh]
            have HH := Lib.hid hh
            clear hh hy
            go_wp2_with fail
            refine (double_no w.heap.size w1.heap.size v L nn HNL.out oi HH.out w3 HT3.out.net).mono ?_
            rintro e w5 ⟨rfl, rfl⟩
            go_wp2_with fail
            go_roundw
            case rel => exact ⟨k + 1, _, _, _, _, _, _, by omega, by go_num, rfl, rfl, Lib.hid ⟨v, L, I, O, HT3.out, HP.out, by have := HIL.out; omega, HB3.out⟩⟩
            case measure => simp [intOf]; omega
        · have e1 : (ok == 1) = false := beq_eq_false_iff_ne.2 e1
          have e2 : (ok == 2) = false := beq_eq_false_iff_ne.2 e2
          have e3 : (ok == 3) = false := beq_eq_false_iff_ne.2 e3
          have e4 : (ok == 4) = false := beq_eq_false_iff_ne.2 e4
          have e5 : (ok == 5) = false := beq_eq_false_iff_ne.2 e5
          go_wp2_with fail
          go_roundw
          case rel => exact ⟨k + 1, _, _, _, _, _, _, by omega, by go_num, rfl, rfl, Lib.hid ⟨v, L, I, O, HT3.out, HP.out, by have := HIL.out; omega, HB3.out⟩⟩
          case measure => simp [intOf]; omega
    · have hkn2 : ¬ (k : Int) < (n : Int) := by omega
      obtain ⟨v, L, I, O, hT, hP, hIl, hB⟩ := hO.out
      have HT := Lib.hid hT
      have HP := Lib.hid hP
      have HB := Lib.hid hB
      have hil : I.length ≤ 16777216 := by have := opSum_le ops k; have := HS.out; omega
      have hin := hT.i.len_eq
      have hon := hT.o.len_eq
      have hpl := hP.length_eq
      rw [List.length_append] at hpl
      have hLl : Hid (L.length ≤ 1073741824) := Lib.hid (by omega)
      clear hT hP hIl hB hO HR HOK
      go_wp2_with fail
      refine (there_any w.heap.size w1.heap.size v L wr HT.out.net hLl.out).mono ?_
      rintro e w3 ⟨lad, ll, lcap, rfl, hnl, hnc, hno, hb⟩
      have HT3 := Lib.hid (HT.out.below hb)
      have HB3 := Lib.hid (HB.out.trans (hb.mono HB.out.size))
      have HLF := Lib.hid hno
      have hsum : ll + no = ni := by omega
      have hin2 : Hid (I.length = ni) := Lib.hid hin.1
      have hon2 : Hid (O.length = no) := Lib.hid hon.1
      have hll2 : Hid (L.length = ll) := Lib.hid hnl
      have hnb : ni ≤ 16777216 := by omega
      clear hno hb HT HB hin hon hpl hnl hil
      have hne : ((IntKind.i64.wrap ((ll : Int) + (no : Int))) != (ni : Int)) = false := by
        have : IntKind.i64.wrap ((ll : Int) + (no : Int)) = (ni : Int) := by rw [IntWalk.i64_in _ (by omega)]; omega
        rw [this]; simp
      have hmo : Try.prog.follows .mixedOrders = true := by kernel_rfl
      go_wp2_with fail
      clear hne
      go_loopw [174] (fun i wl => ∃ j : Nat, j ≤ ni ∧ i = .int .i64 j ∧ Hid (Below w3.heap.size w3 wl)) (fun i _ => ni - (intOf i).toNat)
      case atStart => exact ⟨0, by omega, rfl, Lib.hid (Below.refl _ _)⟩
      case round =>
        obtain ⟨j, hj, rfl, hW⟩ := hrel
        by_cases hjn : j < ni
        · have hjn2 : (j : Int) < (ni : Int) := by omega
          obtain ⟨p, hp⟩ : ∃ p, Hid (I[j]? = some p) := ⟨I[j]'(by rw [hin2.out]; exact hjn), Lib.hid (by simp)⟩
          obtain ⟨b1, o1, e1, hl1, c0, c1, c2, c3, c4, c5, c6, c7, c8, c9, c10⟩ := rdP (HT3.out.i.rd.later hW.out) j p hp.out
          obtain ⟨pb, ⟨mr, mk, mt, ma, mm, mc, mp⟩, ⟨ar, ak, at'⟩⟩ := p
          dsimp only at c0 c1 c2 c3 c4 c5 c6 c7 c8 c9 c10
          have HWa := Lib.hid (hW.out.alloc hW.out.size (.cells #[.bool pb, .int .i64 mr, .int .i64 mk, .string mt, .int .i64 ma, .int .i64 mm, .string mc, .string mp, .int .i64 ar, .int .i64 ak, .string at'] 40))
          have HXa := Lib.hid (Blk.new wr #[.bool pb, .int .i64 mr, .int .i64 mk, .string mt, .int .i64 ma, .int .i64 mm, .string mc, .string mp, .int .i64 ar, .int .i64 ak, .string at'] 40)
          have hcnt : Hid (I.countP (fun q => q = ⟨pb, ⟨mr, mk, mt, ma, mm, mc, mp⟩, ⟨ar, ak, at'⟩⟩) = O.countP (fun q => q = ⟨pb, ⟨mr, mk, mt, ma, mm, mc, mp⟩, ⟨ar, ak, at'⟩⟩) + L.countP (fun q => q = ⟨pb, ⟨mr, mk, mt, ma, mm, mc, mp⟩, ⟨ar, ak, at'⟩⟩)) := Lib.hid (by rw [HP.out.countP_eq, List.countP_append])
          subst e1
          obtain ⟨xi, hxi⟩ : ∃ x, Hid (I.countP (fun q => q = ⟨pb, ⟨mr, mk, mt, ma, mm, mc, mp⟩, ⟨ar, ak, at'⟩⟩) = x) := ⟨_, Lib.hid rfl⟩
          obtain ⟨xo, hxo⟩ : ∃ x, Hid (O.countP (fun q => q = ⟨pb, ⟨mr, mk, mt, ma, mm, mc, mp⟩, ⟨ar, ak, at'⟩⟩) = x) := ⟨_, Lib.hid rfl⟩
          obtain ⟨xl, hxl⟩ : ∃ x, Hid (L.countP (fun q => q = ⟨pb, ⟨mr, mk, mt, ma, mm, mc, mp⟩, ⟨ar, ak, at'⟩⟩) = x) := ⟨_, Lib.hid rfl⟩
          have hx1 : xi = xo + xl := by have := hcnt.out; rw [hxi.out, hxo.out, hxl.out] at this; exact this
          have hx2 : xi ≤ 16777216 := by have h1 := hxi.out; have h2 := hin2.out; have h3 : I.countP (fun q => q = ⟨pb, ⟨mr, mk, mt, ma, mm, mc, mp⟩, ⟨ar, ak, at'⟩⟩) ≤ I.length := List.countP_le_length; omega
          have hne2 : ((xi : Int) != IntKind.i64.wrap ((xo : Int) + (xl : Int))) = false := by
            have : IntKind.i64.wrap ((xo : Int) + (xl : Int)) = (xi : Int) := by rw [IntWalk.i64_in _ (by omega)]; omega
            rw [this]; simp
          go_upto_region 48 with fail
          clear c0 c1 c2 c3 c4 c5 c6 c7 c8 c9 c10
          obtain ⟨W9, hW9⟩ : ∃ W9, Hid (wr.alloc (.cells #[.bool pb, .int .i64 mr, .int .i64 mk, .string mt, .int .i64 ma, .int .i64 mm, .string mc, .string mp, .int .i64 ar, .int .i64 ak, .string at'] 40) = W9) := ⟨_, Lib.hid rfl⟩
          rw [hW9.out] at HWa HXa ⊢
          obtain ⟨d0, d1, d2, d3, d4, d5, d6, d7, d8, d9, d10⟩ := pk_cells HXa.out
          have k0 := cell_regrown d0
          have k1 := cell_regrown d1
          have k2 := cell_regrown d2
          have k3 := cell_regrown d3
          have k4 := cell_regrown d4
          have k5 := cell_regrown d5
          have k6 := cell_regrown d6
          have k7 := cell_regrown d7
          have k8 := cell_regrown d8
          have k9 := cell_regrown d9
          have k10 := cell_regrown d10
          have cI : ∀ d os, Calls Try.prog 17 #[.slice (some ⟨b1, o1, none⟩) ni ci, .agg #[.bool pb, .int .i64 mr, .int .i64 mk, .string mt, .int .i64 ma, .int .i64 mm, .string mc, .string mp, .int .i64 ar, .int .i64 ak, .string at']] (Go.Sort.grow (redrawn W9 d) os) fun e w'' => e = .returned (.int .i64 (xi : Nat)) ∧ ∃ p : Regrown, w'' = Go.Sort.grow (redrawn W9 p.d) p.os := fun d os => by
            have h := count_any (some ⟨b1, o1, none⟩) ni ci I ⟨pb, ⟨mr, mk, mt, ma, mm, mc, mp⟩, ⟨ar, ak, at'⟩⟩ (Go.Sort.grow (redrawn W9 d) os) hin2.out ((HT3.out.i.rd.later HWa.out).later (below_regrown W9 d os)) (by omega)
            rw [hxi.out] at h
            exact Calls.regrown_of h
          have cO : ∀ d os, Calls Try.prog 17 #[.slice oad no co, .agg #[.bool pb, .int .i64 mr, .int .i64 mk, .string mt, .int .i64 ma, .int .i64 mm, .string mc, .string mp, .int .i64 ar, .int .i64 ak, .string at']] (Go.Sort.grow (redrawn W9 d) os) fun e w'' => e = .returned (.int .i64 (xo : Nat)) ∧ ∃ p : Regrown, w'' = Go.Sort.grow (redrawn W9 p.d) p.os := fun d os => by
            have h := count_any oad no co O ⟨pb, ⟨mr, mk, mt, ma, mm, mc, mp⟩, ⟨ar, ak, at'⟩⟩ (Go.Sort.grow (redrawn W9 d) os) hon2.out ((HT3.out.o.rd.later HWa.out).later (below_regrown W9 d os)) (by omega)
            rw [hxo.out] at h
            exact Calls.regrown_of h
          have cL : ∀ d os, Calls Try.prog 17 #[.slice lad ll lcap, .agg #[.bool pb, .int .i64 mr, .int .i64 mk, .string mt, .int .i64 ma, .int .i64 mm, .string mc, .string mp, .int .i64 ar, .int .i64 ak, .string at']] (Go.Sort.grow (redrawn W9 d) os) fun e w'' => e = .returned (.int .i64 (xl : Nat)) ∧ ∃ p : Regrown, w'' = Go.Sort.grow (redrawn W9 p.d) p.os := fun d os => by
            have h := count_any lad ll lcap L ⟨pb, ⟨mr, mk, mt, ma, mm, mc, mp⟩, ⟨ar, ak, at'⟩⟩ (Go.Sort.grow (redrawn W9 d) os) hll2.out ((HLF.out.rd.later HWa.out).later (below_regrown W9 d os)) (by omega)
            rw [hxl.out] at h
            exact Calls.regrown_of h
          refine wp_region_quiet_below hmo (by kernel_rfl) ?_
          clear d0 d1 d2 d3 d4 d5 d6 d7 d8 d9 d10
          repeat (go_big_quiet_step (with_reducible first | exact cI _ _ | exact cO _ _ | exact cL _ _))
          refine wpQuiet_nil ?_
          intro _ hw'
          obtain ⟨⟨dq, osq⟩, hw''⟩ := hw'
          subst hw''
          go_wp2_with fail
          go_roundw
          case rel => exact ⟨j + 1, by omega, by go_num, Lib.hid (HWa.out.trans ((below_regrown W9 dq osq).mono HWa.out.size))⟩
          case measure => simp [intOf]; omega
        · have hjn2 : ¬ (j : Int) < (ni : Int) := by omega
          go_wp2_with fail
          go_ret
          exact ⟨rfl, HB3.out.trans (hW.out.mono HB3.out.size)⟩
end Go.Proofs.Ytlnhpeghgabnkaa
