/-
  Layer 11: the statement TableOwns: its walk.
-/
import Derived.Test.YtiffjjophmgdlaaShare
import Derived.Test.YtiffjjophmgdlaaSame
import Derived.Test.YtiffjjophmgdlaaRef3
import Derived.Deep.CutBlock
namespace Go.Proofs.Ytiffjjophmgdlaa
open Go.RowKit Tb

def spareR : Rw := (⟨#[115, 112, 97, 114, 101]⟩, ⟨#[114, 111, 111, 109]⟩)
def overR : Rw := (⟨#[111, 118, 101, 114]⟩, ⟨#[119, 114, 105, 116, 116, 101, 110]⟩)
def markR : Rw := (⟨#[109, 97, 114, 107]⟩, ⟨#[109, 97, 114, 107]⟩)
def grownR : Rw := (⟨#[103, 114, 111, 119, 110]⟩, ⟨#[]⟩)
theorem take_set_rep {α : Type} {L : List α} {k : Nat} {x : α} (hk : k < L.length) (h : L.take k = List.replicate k x) : (L.set k x).take (k + 1) = List.replicate (k + 1) x := by
  rw [List.take_succ_eq_append_getElem (by simpa using hk), List.getElem_set_self, List.take_set, h, List.set_eq_of_length_le (by simp), List.replicate_succ']
def lenOf : Value → Nat
  | .slice _ n _ => n
  | _ => 0
theorem cnt_rep (k v : ByteArray) (n : Nat) : (trOf (List.replicate n (k, v))).cnt = min n 1 := by
  rw [cnt_eq, (of_ino _).1]
  cases n with
  | zero => rfl
  | succ n => rw [of_same]; simp
theorem sz_over (n : Nat) : Sz (List.replicate n overR) := fun r hr => by
  rw [List.eq_of_mem_replicate hr]
  exact ⟨by decide, by decide⟩
theorem field_tbl (v : Value) (W : World) : (Instr.field 30 (.agg #[v]) 0).run Try.prog W = .ok v W := by kernel_rfl
set_option maxRecDepth 100000 in
set_option maxHeartbeats 8000000 in
theorem own_law (ad : Option Addr) (n cap : Nat) (l : List Rw) (w : World) (h : RdS w ad n cap l) (hb : n ≤ 1152921504606846976) (hs : Sz l) :
    Calls Try.prog 3 #[.slice ad n cap] w fun e w' => e = .returned (.bool true) ∧ Below w.heap.size w w' := by
  have H := Lib.hid h
  have HS := Lib.hid hs
  clear h hs
  by_cases hn : n ≤ 1000
  · go_enter Try.func3, Try.ntmps3
    go_wp2_with fail
    refine (lives_any _).mono ?_
    rintro e w1 ⟨rfl, hb⟩
    have HB1 := Lib.hid hb
    clear hb
    have hst := Lib.hid (own_lit0 w1 w.heap.size HB1.out.size)
    have hB1a := Lib.hid (HB1.out.alloc HB1.out.size (.cells #[] 25))
    have hRd1 := Lib.hid (H.out.later hB1a.out)
    have hln := Lib.hid H.out.len
    go_upto_region 5 with (first
      | (at_builtin; refine ER.wpList_app rfl _ _ (by rfl) w.heap.size _ _ [spareR] _ _ (by rfl) h3.out.own _ 1 (by rfl) (by rfl) (by rfl) (by rfl) (by have := hln.out; simp; omega) (Nat.le_trans hB1a.out.size h3.out.upd.size) ?_; intro ad4 n4 c4 w4 h4)
      | (at_builtin; refine ER.wpList_appL rfl _ _ (by rfl) w.heap.size _ [] l _ (by rfl) hst.out ad n cap (by rfl) hRd1.out.len hRd1.out.rd hRd1.out.nil (by have := hln.out; simp; omega) hB1a.out.size ?_; intro ad3 n3 c3 w3 h3))
    have HB3 := Lib.hid (h3.out.below hst.out hB1a.out hB1a.out.size)
    have HB4 := Lib.hid (h4.out.below h3.out.own HB3.out HB3.out.size)
    rw [List.nil_append] at h4
    have HO4 := Lib.hid h4.out.own
    have hl4 := HO4.out.len_eq
    have hn4 : n4 = n + 1 := by have h1 := hl4.1; have h2 := hln.out; simp at h1; omega
    subst hn4
    have hc4 : n ≤ c4 := by omega
    have t1 := fun W => ER.slice_to ad4 (n + 1) c4 n (n : Int) rfl hc4 W
    change ∀ W, (Instr.slice 22 _ _ _ _).run Try.prog W = _ at t1
    have htk : Hid ((l ++ [spareR]).take n = l) := Lib.hid (by rw [List.take_append_of_le_length (by have := hln.out; omega), List.take_of_length_le (by have := hln.out; omega)])
    have hrm := Lib.hid (HO4.out.rd.take n)
    rw [htk.out] at hrm
    clear h3 h4 hst hB1a hRd1 HB1 HB3 hl4
    go_wp2_with fail
    refine (of_any ad4 n c4 l w4 hln.out hrm.out (by omega) HS.out).mono ?_
    rintro e w5 ⟨b, rfl, hbb, hT, hb⟩
    have HT5 := Lib.hid hT
    have HB5 := Lib.hid (HB4.out.trans (hb.mono HB4.out.size))
    have HO5 := Lib.hid (HO4.out.below hb (Nat.le_refl _))
    have hrm5 := Lib.hid (hrm.out.later hb)
    clear hT hb HO4 hrm HB4 t1 hbb
    go_wp2_with fail
    refine (same_yes ad4 ad n c4 cap l w5 hrm5.out ((H.out.later HB5.out).rd) hln.out (by omega)).mono ?_
    rintro e w6 ⟨rfl, hb⟩
    have HT6 := Lib.hid (HT5.out.below hb)
    have HB6 := Lib.hid (HB5.out.trans (hb.mono HB5.out.size))
    have HO6 := Lib.hid (HO5.out.below hb (Nat.le_refl _))
    obtain ⟨g, o, e2, hgl, x0, x1⟩ := rdR HO6.out.rd n spareR (by rw [List.getElem?_append_right (by have := hln.out; omega), hln.out]; simp)
    have hnn : (n : Int) < (n : Int) + 1 := by omega
    have hrun := run_neq_row spareR
    dsimp only [spareR] at x0 x1 hrun
    subst e2
    clear hb HT5 HB5 HO5 hrm5
    go_wp2_with fail
    clear x0 x1 hrun hnn
    refine (refOf_any ad n cap l w6 hln.out ((H.out.later HB6.out).rd) (by omega)).mono ?_
    rintro e w7 ⟨adw, nw, cw, rfl, how, hb⟩
    have HT7 := Lib.hid (HT6.out.below hb)
    have HB7 := Lib.hid (HB6.out.trans (hb.mono HB6.out.size))
    have HO7 := Lib.hid (HO6.out.below hb (Nat.le_refl _))
    have HW7 := Lib.hid how
    clear how hb HT6 HO6
    have hfd : ∀ W : World, (Instr.field 30 (.agg #[.slice adw nw cw]) 0).run Try.prog W = .ok (.slice adw nw cw) W := fun W => field_tbl _ W
    go_wp2_with fail
    go_loopw [58] (fun i wr => ∃ (k : Nat) (L' : List Rw), k ≤ n ∧ i = .int .i64 k ∧ Hid (L'.length = n + 1) ∧ Hid (L'.take k = List.replicate k overR) ∧ Hid (ER.Own wr w.heap.size (.slice (some ⟨g, o, none⟩) (n + 1) c4) L') ∧ Hid (TblAt wr b (trOf l)) ∧ Hid (ER.Own wr w6.heap.size (.slice adw nw cw) (refOf l)) ∧ Hid (Below w.heap.size w wr)) (fun i _ => n - (intOf i).toNat)
    case atStart => exact ⟨0, _, Nat.zero_le _, rfl, Lib.hid (by simp [hln.out]), Lib.hid rfl, HO7, HT7, HW7, HB7⟩
    case round =>
      obtain ⟨k, L', hk, rfl, hLl, hLt, hO, hT, hW, hB⟩ := hrel
      clear HO7 HT7 HW7 HB7
      by_cases hkn : k < n
      · have hkn2 : (k : Int) < (n : Int) := by omega
        obtain ⟨r, hr⟩ : ∃ r, Hid (L'[k]? = some r) := ⟨L'[k]'(by rw [hLl.out]; omega), Lib.hid (by simp)⟩
        obtain ⟨g', o', e3, hl3, y0, y1⟩ := rdR hO.out.rd k r hr.out
        simp only [Option.some.injEq, Addr.mk.injEq, and_true] at e3
        obtain ⟨rfl, rfl⟩ := e3
        have hfr := own_free hO.out
        clear hl3
        go_wp2_with fail
        have hst := Lib.hid (stored_at hO.out k (by rw [hLl.out]; omega) overR)
        have hup := Lib.hid (upd_setCells wr g (o + k * 2) (csR overR))
        have hgb := Lib.hid (hO.out.blk (g := g) rfl)
        have hg6 := Lib.hid (hO.out.lt g rfl)
        have hgs : Hid (L'.take k = List.replicate k overR ∧ k < L'.length) := Lib.hid ⟨hLt.out, by rw [hLl.out]; omega⟩
        go_roundw
        case rel =>
          refine ⟨k + 1, L'.set k overR, by omega, by go_num, Lib.hid (by rw [List.length_set]; exact hLl.out), Lib.hid (take_set_rep hgs.out.2 hgs.out.1), hst, Lib.hid (hT.out.upds hup.out (fun j hj => by subst hj; exact hgb.out)), ?_, ?_⟩
          · exact Lib.hid (hW.out.upd hup.out fun j hj e => by have := (hW.out.lt j hj).1; subst e; omega)
          · exact Lib.hid (hB.out.trans (hup.out.below w.heap.size hB.out.size (fun j e => by rw [e]; exact hg6.out.1)))
        case measure => simp [intOf]; omega
      · have hkn2 : ¬ (k : Int) < (n : Int) := by omega
        obtain rfl : k = n := by omega
        obtain ⟨X, rfl⟩ : ∃ X, X = wr := ⟨_, rfl⟩
        have hcn : Hid ((trOf l).cnt ≤ 20001) := Lib.hid (by have := of_cnt l; have := hln.out; omega)
        have hino := Lib.hid (of_ino l).1
        obtain ⟨L0, hL0⟩ : ∃ L0, Hid (refOf l = L0) := ⟨_, Lib.hid rfl⟩
        rw [hL0.out] at hW hino
        go_wp2_with fail
        refine (rows_any b (trOf l) X hT.out hcn.out).mono ?_
        rintro e w8 ⟨adA, nA, cA, rfl, hlA, hcA, hoA, hbA⟩
        rw [hino.out] at hlA hoA
        have HB8 := Lib.hid hbA
        have HT8 := Lib.hid (hT.out.below hbA)
        have HA8 := Lib.hid hoA
        clear hoA hbA
        go_wp2_with fail
        refine (rows_any b (trOf l) w8 HT8.out hcn.out).mono ?_
        rintro e w9 ⟨adB, nB, cB, rfl, hlB, hcB, hoB, hbB⟩
        rw [hino.out] at hlB hoB
        obtain rfl : nA = nB := by rw [← hlA, ← hlB]
        have HB9 := Lib.hid (HB8.out.trans (hbB.mono HB8.out.size))
        have HA9 := Lib.hid (HA8.out.below hbB (Nat.le_refl _))
        have HBb9 := Lib.hid hoB
        have hsz8 := Lib.hid HB8.out.size
        have hA8lt := Lib.hid HA8.out.lt
        have HWr9 := Lib.hid (hW.out.below HB9.out (Nat.le_refl _)).rd
        obtain rfl : nw = nA := by have h1 := hW.out.len_eq.1; omega
        have hLn : Hid (L0.length = nw) := Lib.hid hlA
        have hnw : nw ≤ 1000 := by have h1 := ref_len l; rw [hL0.out] at h1; have := hln.out; omega
        clear hoB hbB hlA hlB hcA hcB HT8 HA8
        go_wp2_with fail
        refine (same_yes adA adw nw cA cw L0 w9 HA9.out.rd HWr9.out hLn.out (by omega)).mono ?_
        rintro e w10 ⟨rfl, hb⟩
        have HB10 := Lib.hid (HB9.out.trans (hb.mono HB9.out.size))
        have HA10 := Lib.hid (HA9.out.below hb (Nat.le_refl _))
        have HBb10 := Lib.hid (HBb9.out.below hb (Nat.le_refl _))
        have HWr10 := Lib.hid (HWr9.out.later hb)
        clear hb HA9 HBb9 HWr9 HB9
        go_wp2_with fail
        refine (same_yes adB adw nw cB cw L0 w10 HBb10.out.rd HWr10.out hLn.out (by omega)).mono ?_
        rintro e w11 ⟨rfl, hb⟩
        have HB11 := Lib.hid (HB10.out.trans (hb.mono HB10.out.size))
        have HA11 := Lib.hid (HA10.out.below hb (Nat.le_refl _))
        have HBb11 := Lib.hid (HBb10.out.below hb (Nat.le_refl _))
        clear hb HA10 HBb10 HWr10 HB10
        go_wp2_with fail
        go_loopw [82] (fun i wx => ∃ (j : Nat) (M : List Rw), j ≤ nw ∧ i = .int .i64 j ∧ Hid (M.length = nw) ∧ Hid (M.take j = List.replicate j markR) ∧ Hid (ER.Own wx X.heap.size (.slice adA nw cA) M) ∧ Hid (ER.Own wx w8.heap.size (.slice adB nw cB) L0) ∧ Hid (Below X.heap.size X wx) ∧ Hid (∀ k, (Value.slice adA nw cA).ownBlock = some k → k < w8.heap.size)) (fun i _ => nw - (intOf i).toNat)
        case atStart => exact ⟨0, L0, Nat.zero_le _, rfl, hLn, Lib.hid rfl, HA11, HBb11, HB11, Lib.hid (fun k hk => (hA8lt.out k hk).2)⟩
        case round =>
          obtain ⟨j, M, hj, rfl, hMl, hMt, hA, hBb, hBx, hA8⟩ := hrel
          clear HA11 HBb11 HB11
          by_cases hjn : j < nw
          · have hjn2 : (j : Int) < (nw : Int) := by omega
            obtain ⟨r, hr⟩ : ∃ r, Hid (M[j]? = some r) := ⟨M[j]'(by rw [hMl.out]; omega), Lib.hid (by simp)⟩
            obtain ⟨gA, oA, rfl, hl3, y0, y1⟩ := rdR hA.out.rd j r hr.out
            have hfr := own_free hA.out
            clear hl3
            go_wp2_with fail
            have hst := Lib.hid (stored_at hA.out j (by rw [hMl.out]; omega) markR)
            have hup := Lib.hid (upd_setCells wr gA (oA + j * 2) (csR markR))
            have hgs : Hid (M.take j = List.replicate j markR ∧ j < M.length) := Lib.hid ⟨hMt.out, by rw [hMl.out]; omega⟩
            go_roundw
            case rel =>
              refine ⟨j + 1, M.set j markR, by omega, by go_num, Lib.hid (by rw [List.length_set]; exact hMl.out), Lib.hid (take_set_rep hgs.out.2 hgs.out.1), hst, ?_, ?_, hA8⟩
              · exact Lib.hid (hBb.out.upd hup.out fun k hk e => by have h1 := (hBb.out.lt k hk).1; have h2 := hA8.out gA rfl; subst e; omega)
              · exact Lib.hid (hBx.out.trans (hup.out.below X.heap.size hBx.out.size (fun k e => by rw [e]; exact (hA.out.lt gA rfl).1)))
            case measure => simp [intOf]; omega
          · have hjn2 : ¬ (j : Int) < (nw : Int) := by omega
            obtain rfl : j = nw := by omega
            rw [List.take_of_length_le (by rw [hMl.out]; exact Nat.le_refl _)] at hMt
            rw [hMt.out] at hA
            clear hMt hMl
            go_wp2_with fail
            have hsh0 := Lib.hid (Elt.Sh.self hA.out)
            have hap0 : Hid (Apart (.slice adB j cB) (.slice adA j cA)) := Lib.hid (fun m h1 h2 => by have h3 := (hBb.out.lt m h1).1; have h4 := hA8.out m h2; omega)
            obtain ⟨M, hM⟩ : ∃ M, Hid (List.replicate j markR = M) := ⟨_, Lib.hid rfl⟩
            rw [hM.out] at hA hsh0
            have hrd0 := Lib.hid hA.out.rd
            have hMl : Hid (M.length = j) := by rw [← hM.out]; exact Lib.hid (List.length_replicate ..)
            go_loopw [12] (fun v wr => ∃ (q : Nat) (adG : Option Addr) (nG cG : Nat), q ≤ 70 ∧ nG = j + q ∧ v = .slice adG nG cG ∧ Hid (ER.Own wr X.heap.size (.slice adG nG cG) (M ++ List.replicate q grownR)) ∧ Hid (ER.Rd wr wr.heap.size adA M) ∧ Hid (ER.Sh (.slice adG nG cG) (M ++ List.replicate q grownR) adA M) ∧ Hid (ER.Own wr w8.heap.size (.slice adB j cB) L0) ∧ Hid (Apart (.slice adB j cB) (.slice adG nG cG)) ∧ Hid (Below X.heap.size X wr)) (fun v _ => j + 70 - lenOf v)
            case atStart => exact ⟨0, adA, j, cA, Nat.zero_le _, rfl, rfl, by rw [List.replicate_zero, List.append_nil]; exact hA, hrd0, by rw [List.replicate_zero, List.append_nil]; exact hsh0, hBb, hap0, hBx⟩
            case round =>
              obtain ⟨q, adG, nG, cG, hq, hnG, rfl, hG, hRd, hSh, hB2, hAp, hBG⟩ := hrel
              clear hA hsh0 hap0 hrd0 hBb hBx
              by_cases hq7 : q < 70
              · have hlt7 : (nG : Int) < (j : Int) + 70 := by omega
                have hNG := Lib.hid hnG
                have hlb : Hid ((M ++ List.replicate q grownR).length + 1 ≤ 274877906944) := Lib.hid (by have := hMl.out; simp; omega)
                clear hnG
                go_wp2_with (at_builtin; refine ER.wpList_appS rfl _ _ (by rfl) X.heap.size _ _ [grownR] wr _ (by rfl) hG.out _ 1 (by rfl) (by rfl) (by rfl) (by rfl) hlb.out hBG.out.size adA M hRd.out hSh.out ?_; intro adG2 nG2 cG2 wG2 h9 r9 s9)
                have hn9 : nG2 = j + (q + 1) := by have h1 := h9.out.own.len_eq.1; have h2 := hMl.out; simp at h1; omega
                go_roundw
                case rel =>
                  refine ⟨q + 1, adG2, nG2, cG2, by omega, hn9, rfl, ?_, r9, ?_, ?_, ?_, ?_⟩
                  · rw [List.replicate_succ', ← List.append_assoc]; exact Lib.hid h9.out.own
                  · rw [List.replicate_succ', ← List.append_assoc]; exact s9
                  · exact Lib.hid (hB2.out.upd h9.out.upd fun m h1 h2 => hAp.out m h1 h2)
                  · exact Lib.hid (hAp.out.lies h9.out.lies fun m h1 => (hB2.out.lt m h1).2)
                  · exact Lib.hid (h9.out.below hG.out hBG.out hBG.out.size)
                case measure => have h1 := hNG.out; simp [lenOf]; omega
              · have hlt7 : ¬ (nG : Int) < (j : Int) + 70 := by omega
                clear hG hSh hAp hnG
                obtain ⟨Y, rfl⟩ : ∃ Y, Y = wr := ⟨_, rfl⟩
                go_wp2_with fail
                go_loopw [103] (fun i wr => ∃ q : Nat, q ≤ j ∧ i = .int .i64 q ∧ Hid (Below Y.heap.size Y wr)) (fun i _ => j - (intOf i).toNat)
                case atStart => exact ⟨0, Nat.zero_le _, rfl, Lib.hid (Below.refl _ _)⟩
                case round =>
                  obtain ⟨z, hz, rfl, hBY⟩ := hrel
                  by_cases hzj : z < j
                  · have hzj2 : (z : Int) < (j : Int) := by omega
                    obtain ⟨gA, oA, rfl, hl3, y0, y1⟩ := rdR (hRd.out.later hBY.out) z markR (by rw [← hM.out, List.getElem?_replicate, if_pos hzj])
                    dsimp only [markR] at y0 y1
                    go_wp2_with fail
                    go_roundw
                    case rel => exact ⟨z + 1, by omega, by go_num, hBY⟩
                    case measure => simp [intOf]; omega
                  · have hzj2 : ¬ (z : Int) < (j : Int) := by omega
                    obtain rfl : z = j := by omega
                    go_wp2_with fail
                    have HBX := Lib.hid (hBG.out.trans (hBY.out.mono hBG.out.size))
                    have HTw := Lib.hid (hT.out.below HBX.out)
                    have HWw := Lib.hid (hW.out.below HBX.out (Nat.le_refl _)).rd
                    have HOw := Lib.hid ((hO.out.below HBX.out (Nat.le_refl _)).rd.take k)
                    rw [hLt.out] at HOw
                    have HBw := Lib.hid (hB.out.trans (HBX.out.mono hB.out.size))
                    have HBbw := Lib.hid (hB2.out.below hBY.out (Nat.le_refl _)).rd
                    clear hT hW hO hLt hB hB2 hBG hBY hRd HBX
                    refine (of_any (some ⟨g, o, none⟩) k c4 (List.replicate k overR) wr (List.length_replicate ..) HOw.out (by omega) (sz_over k)).mono ?_
                    rintro e wu ⟨bu, rfl, hbu, hTu, hb⟩
                    have HTu1 := Lib.hid hTu
                    have HTw1 := Lib.hid (HTw.out.below hb)
                    have HWw1 := Lib.hid (HWw.out.later hb)
                    have HBbw1 := Lib.hid (HBbw.out.later hb)
                    have HBw1 := Lib.hid (HBw.out.trans (hb.mono HBw.out.size))
                    clear hTu hb hbu HTw HWw HBbw HBw HOw
                    go_wp2_with fail
                    refine (same_yes adB adw z cB cw L0 wu HBbw1.out HWw1.out hLn.out (by omega)).mono ?_
                    rintro e wv ⟨rfl, hb⟩
                    have HTu2 := Lib.hid (HTu1.out.below hb)
                    have HTw2 := Lib.hid (HTw1.out.below hb)
                    have HWw2 := Lib.hid (HWw1.out.later hb)
                    have HBw2 := Lib.hid (HBw1.out.trans (hb.mono HBw1.out.size))
                    clear hb HTu1 HTw1 HWw1 HBbw1 HBw1
                    go_wp2_with fail
                    refine (rows_any b (trOf l) wv HTw2.out hcn.out).mono ?_
                    rintro e wx ⟨adC, nC, cC, rfl, hlC, hcC, hoC, hb⟩
                    rw [hino.out] at hlC hoC
                    obtain rfl : z = nC := by have := hLn.out; omega
                    have HC3 := Lib.hid hoC.rd
                    have HTu3 := Lib.hid (HTu2.out.below hb)
                    have HWw3 := Lib.hid (HWw2.out.later hb)
                    have HBw3 := Lib.hid (HBw2.out.trans (hb.mono HBw2.out.size))
                    clear hb hoC hlC hcC HTu2 HTw2 HWw2 HBw2
                    go_wp2_with fail
                    refine (same_yes adC adw z cC cw L0 wx HC3.out HWw3.out hLn.out (by omega)).mono ?_
                    rintro e wy ⟨rfl, hb⟩
                    have HTu4 := Lib.hid (HTu3.out.below hb)
                    have HBw4 := Lib.hid (HBw3.out.trans (hb.mono HBw3.out.size))
                    have hcr : Hid ((trOf (List.replicate k overR)).cnt = min k 1) := Lib.hid (cnt_rep _ _ k)
                    clear hb HTu3 HWw3 HBw3 HC3
                    go_wp2_with fail
                    refine (len_tbl bu (trOf (List.replicate k overR)) wy HTu4.out).mono ?_
                    rintro e w' ⟨rfl, rfl⟩
                    rw [hcr.out]
                    go_wp2_with fail
                    all_goals
                      first
                        | (have hm : (((min k 1 : Nat) : Int) == (k : Int)) = true := beq_iff_eq.2 (by omega); rw [hm])
                        | (have hm : (((min k 1 : Nat) : Int) == (1 : Int)) = true := beq_iff_eq.2 (by omega); rw [hm])
                      go_ret
                      exact ⟨rfl, HBw4.out⟩
  · have hn2 : (1000 : Int) < (n : Int) := by omega
    go_enter Try.func3, Try.ntmps3
    go_wp2_with fail
    refine (lives_any _).mono ?_
    rintro e w1 ⟨rfl, hb⟩
    have HB1 := Lib.hid hb
    clear hb
    go_wp2_with fail
    go_ret
    exact ⟨rfl, HB1.out⟩
end Go.Proofs.Ytiffjjophmgdlaa
