/-
  Walks over layer 2: Compare, same, lives.
-/
import Derived.Test.YtfgkgehlokabgaaDoorPart
import Derived.Deep.RegionWith
import Derived.Deep.DeepCutAuto
namespace Go.Proofs.YtfgkgehlokabgaaDoor
open Go.RowKit

theorem lst_length (L : Nat → PV) (n : Nat) : (lst L n).length = n := by simp [lst]
theorem lst_split (L : Nat → PV) {k n : Nat} (h : k ≤ n) : lst L n = lst L k ++ lst (fun i => L (k + i)) (n - k) := by
  unfold lst
  obtain ⟨m, rfl⟩ : ∃ m, n = k + m := ⟨n - k, by omega⟩
  rw [List.range_add, List.map_append, List.map_map, Nat.add_sub_cancel_left]
  rfl
theorem lst_cons (L : Nat → PV) (n : Nat) : lst L (n + 1) = (L 0).toP :: lst (fun i => L (1 + i)) n := by
  rw [lst_split L (show 1 ≤ n + 1 by omega)]
  simp [lst]
theorem cmpL_skip (A B : Nat → PV) : ∀ (k : Nat) (a b : List Ky.Part), (∀ i, i < k → Ky.cmpP (A i).toP (B i).toP = 0) → Ky.cmpL (lst A k ++ a) (lst B k ++ b) = Ky.cmpL a b
  | 0, a, b, _ => by simp [lst]
  | k + 1, a, b, h => by
    rw [lst_succ, lst_succ, List.append_assoc, List.append_assoc, cmpL_skip A B k _ _ (fun i hi => h i (by omega))]
    show Ky.cmpL ((A k).toP :: a) ((B k).toP :: b) = _
    rw [Ky.cmpL, if_pos (h k (by omega))]
theorem cmpL_at (A B : Nat → PV) (na nb k : Nat) (h : ∀ i, i < k → Ky.cmpP (A i).toP (B i).toP = 0) (ha : k < na) (hb : k < nb) (hc : Ky.cmpP (A k).toP (B k).toP ≠ 0) : Ky.cmpL (lst A na) (lst B nb) = Ky.cmpP (A k).toP (B k).toP := by
  rw [lst_split A (show k ≤ na by omega), lst_split B (show k ≤ nb by omega), cmpL_skip A B k _ _ h]
  obtain ⟨m, hm⟩ : ∃ m, na - k = m + 1 := ⟨na - k - 1, by omega⟩
  obtain ⟨m', hm'⟩ : ∃ m, nb - k = m + 1 := ⟨nb - k - 1, by omega⟩
  rw [hm, hm', lst_cons, lst_cons]
  show Ky.cmpL ((A k).toP :: _) ((B k).toP :: _) = _
  rw [Ky.cmpL, if_neg hc]
theorem cmpL_end (A B : Nat → PV) (na nb : Nat) (h : ∀ i, i < min na nb → Ky.cmpP (A i).toP (B i).toP = 0) : Ky.cmpL (lst A na) (lst B nb) = cmpI na nb := by
  rw [lst_split A (show min na nb ≤ na by omega), lst_split B (show min na nb ≤ nb by omega), cmpL_skip A B _ _ _ h]
  unfold cmpI
  rcases Nat.lt_trichotomy na nb with h1 | h1 | h1
  · obtain ⟨m, hm⟩ : ∃ m, nb - min na nb = m + 1 := ⟨nb - na - 1, by omega⟩
    rw [show na - min na nb = 0 by omega, hm, lst_cons, if_pos (by omega)]
    rfl
  · subst h1
    rw [show na - min na na = 0 by omega, if_neg (by omega), if_neg (by omega)]
    rfl
  · obtain ⟨m, hm⟩ : ∃ m, na - min na nb = m + 1 := ⟨na - nb - 1, by omega⟩
    rw [show nb - min na nb = 0 by omega, hm, lst_cons, if_neg (by omega), if_pos (by omega)]
    rfl
theorem SliceIs.at_ {w : World} {B : Nat} {ad : Option Addr} {n : Nat} {L : Nat → PV} (h : SliceIs w B ad n L) (k : Nat) (hk : k < n) :
    ∃ b off, ad = some ⟨b, off, none⟩ ∧ b < B ∧ w.cell? ⟨b, off + k * 3, none⟩ = some (.bool (L k).num) ∧ w.cell? ⟨b, off + k * 3 + 1, none⟩ = some (.int .i64 (L k).n) ∧ w.cell? ⟨b, off + k * 3 + 2, none⟩ = some (.string (L k).s) := by
  obtain ⟨b, off, e, hb, hc⟩ := h (by omega)
  obtain ⟨h0, h1, h2⟩ := hc k hk
  exact ⟨b, off, e, hb, h0, h1, h2⟩
theorem SliceIs.drew {w : World} {B : Nat} {ad : Option Addr} {n : Nat} {L : Nat → PV} (h : SliceIs w B ad n L) : SliceIs w.drew B ad n L := h
set_option maxRecDepth 100000 in
set_option maxHeartbeats 4000000 in
theorem Compare_any (ad bd : Option Addr) (na ca nb cb : Nat) (A B : Nat → PV) (hna : na ≤ 1099511627776) (hnb : nb ≤ 1099511627776) (w : World) (hA : SliceIs w w.heap.size ad na A) (hB : SliceIs w w.heap.size bd nb B) :
    Calls Tryd.prog 15 #[.slice ad na ca, .slice bd nb cb] w fun e w' => e = .returned (.int .i64 (Ky.cmpL (lst A na) (lst B nb))) ∧ Below w.heap.size w w' := by
  have HA := Lib.hid hA
  have HB := Lib.hid hB
  have hint := hide fun (a b : Int) (W : World) => cmp_int a b W
  clear hA hB
  obtain ⟨mn, hmn⟩ : ∃ m : Nat, Hid (min na nb = m) := ⟨_, Lib.hid rfl⟩
  have hmn1 : mn ≤ na := by have := hmn.out; omega
  have hmn2 : mn ≤ nb := by have := hmn.out; omega
  rcases Nat.lt_or_ge nb na with hle | hle
  · have e : mn = nb := by have := hmn.out; omega
    subst e
    go_enter Tryd.func15, Tryd.ntmps15
    go_wp2_with fail
    go_loopw [12] (fun i wr => ∃ k : Nat, k ≤ mn ∧ i = .int .i64 k ∧ Hid (∀ i, i < k → Ky.cmpP (A i).toP (B i).toP = 0) ∧ Hid (Below w.heap.size w wr)) (fun i _ => mn - (intOf i).toNat)
    case atStart => exact ⟨0, by omega, rfl, Lib.hid (fun i hi => by omega), Lib.hid (Below.refl _ _)⟩
    case round =>
      obtain ⟨k, hk, rfl, hall, HW⟩ := hrel
      by_cases hkn : k < mn
      · have hkn2 : (k : Int) < (mn : Int) := by omega
        have hka := Int.ofNat_lt.2 (Nat.lt_of_lt_of_le hkn hmn1)
        have hkb := Int.ofNat_lt.2 (Nat.lt_of_lt_of_le hkn hmn2)
        obtain ⟨b1, o1, rfl, hb1, c0, c1, c2⟩ := (HA.out.below HW.out (Nat.le_refl _)).at_ k (by first | exact Nat.lt_of_lt_of_le hkn hmn1 | exact Nat.lt_of_lt_of_le hkn hmn2)
        obtain ⟨b2, o2, rfl, hb2, d0, d1, d2⟩ := (HB.out.below HW.out (Nat.le_refl _)).at_ k (by first | exact Nat.lt_of_lt_of_le hkn hmn1 | exact Nat.lt_of_lt_of_le hkn hmn2)
        obtain ⟨r, hr⟩ : ∃ r, Hid (Ky.cmpP (A k).toP (B k).toP = r) := ⟨_, Lib.hid rfl⟩
        have hcmp := compare_any (A k) (B k) wr.drew
        rw [hr.out] at hcmp
        have hcm := hide hcmp
        clear hcmp hb1 hb2
        go_wp2_with fail
        refine wp_region_still_tail 8 (by kernel_rfl) (by kernel_rfl) ?_
        simp only [List.take_succ_cons, List.take_zero, List.drop_succ_cons, List.drop_zero]
        change wpStill _ _ wr.drew (fun a' => wpList _ _ _ _ a' wr.drew) _ _
        still_step
        still_step
        still_step
        still_step
        still_step
        still_step
        still_step
        still_step
        refine wpStill_nil ?_
        go_wp2_with fail
        refine (unhide hcm).mono ?_
        rintro e w1 ⟨rfl, hb⟩
        have HW2 := Lib.hid (HW.out.trans ((show Below wr.heap.size wr w1 from ⟨hb.os, hb.tape, hb.output, hb.size, hb.block⟩).mono HW.out.size))
        clear hb hcm
        by_cases h0 : r = 0
        · subst h0
          have hall2 : Hid (∀ i, i < k + 1 → Ky.cmpP (A i).toP (B i).toP = 0) := Lib.hid fun i hi => by
            rcases (by omega : i < k ∨ i = k) with h | rfl
            · exact hall.out i h
            · exact hr.out
          go_wp2_with fail
          go_roundw
          case rel => exact ⟨k + 1, by omega, by go_num, hall2, HW2⟩
          case measure => simp [intOf]; omega
        · have h1 : (r != 0) = true := bne_iff_ne.2 h0
          have HF := Lib.hid (cmpL_at A B _ _ k hall.out (Nat.lt_of_lt_of_le hkn hmn1) (Nat.lt_of_lt_of_le hkn hmn2) (by rw [hr.out]; exact h0))
          clear h0
          go_wp2_with fail
          go_ret
          exact ⟨by rw [HF.out, hr.out]; rfl, HW2.out⟩
      · have hkn2 : ¬ (k : Int) < (mn : Int) := by omega
        obtain rfl : k = mn := by omega
        have HF := Lib.hid (cmpL_end A B _ _ (by rw [hmn.out]; exact hall.out))
        go_wp2_with fail
        refine (unhide hint _ _ _).mono ?_
        rintro e w9 ⟨rfl, rfl⟩
        go_wp2_with fail
        go_ret
        exact ⟨by rw [HF.out]; rfl, HW.out⟩
  · have e : mn = na := by have := hmn.out; omega
    subst e
    go_enter Tryd.func15, Tryd.ntmps15
    go_wp2_with fail
    go_loopw [12] (fun i wr => ∃ k : Nat, k ≤ mn ∧ i = .int .i64 k ∧ Hid (∀ i, i < k → Ky.cmpP (A i).toP (B i).toP = 0) ∧ Hid (Below w.heap.size w wr)) (fun i _ => mn - (intOf i).toNat)
    case atStart => exact ⟨0, by omega, rfl, Lib.hid (fun i hi => by omega), Lib.hid (Below.refl _ _)⟩
    case round =>
      obtain ⟨k, hk, rfl, hall, HW⟩ := hrel
      by_cases hkn : k < mn
      · have hkn2 : (k : Int) < (mn : Int) := by omega
        have hka := Int.ofNat_lt.2 (Nat.lt_of_lt_of_le hkn hmn1)
        have hkb := Int.ofNat_lt.2 (Nat.lt_of_lt_of_le hkn hmn2)
        obtain ⟨b1, o1, rfl, hb1, c0, c1, c2⟩ := (HA.out.below HW.out (Nat.le_refl _)).at_ k (by first | exact Nat.lt_of_lt_of_le hkn hmn1 | exact Nat.lt_of_lt_of_le hkn hmn2)
        obtain ⟨b2, o2, rfl, hb2, d0, d1, d2⟩ := (HB.out.below HW.out (Nat.le_refl _)).at_ k (by first | exact Nat.lt_of_lt_of_le hkn hmn1 | exact Nat.lt_of_lt_of_le hkn hmn2)
        obtain ⟨r, hr⟩ : ∃ r, Hid (Ky.cmpP (A k).toP (B k).toP = r) := ⟨_, Lib.hid rfl⟩
        have hcmp := compare_any (A k) (B k) wr.drew
        rw [hr.out] at hcmp
        have hcm := hide hcmp
        clear hcmp hb1 hb2
        go_wp2_with fail
        refine wp_region_still_tail 8 (by kernel_rfl) (by kernel_rfl) ?_
        simp only [List.take_succ_cons, List.take_zero, List.drop_succ_cons, List.drop_zero]
        change wpStill _ _ wr.drew (fun a' => wpList _ _ _ _ a' wr.drew) _ _
        still_step
        still_step
        still_step
        still_step
        still_step
        still_step
        still_step
        still_step
        refine wpStill_nil ?_
        go_wp2_with fail
        refine (unhide hcm).mono ?_
        rintro e w1 ⟨rfl, hb⟩
        have HW2 := Lib.hid (HW.out.trans ((show Below wr.heap.size wr w1 from ⟨hb.os, hb.tape, hb.output, hb.size, hb.block⟩).mono HW.out.size))
        clear hb hcm
        by_cases h0 : r = 0
        · subst h0
          have hall2 : Hid (∀ i, i < k + 1 → Ky.cmpP (A i).toP (B i).toP = 0) := Lib.hid fun i hi => by
            rcases (by omega : i < k ∨ i = k) with h | rfl
            · exact hall.out i h
            · exact hr.out
          go_wp2_with fail
          go_roundw
          case rel => exact ⟨k + 1, by omega, by go_num, hall2, HW2⟩
          case measure => simp [intOf]; omega
        · have h1 : (r != 0) = true := bne_iff_ne.2 h0
          have HF := Lib.hid (cmpL_at A B _ _ k hall.out (Nat.lt_of_lt_of_le hkn hmn1) (Nat.lt_of_lt_of_le hkn hmn2) (by rw [hr.out]; exact h0))
          clear h0
          go_wp2_with fail
          go_ret
          exact ⟨by rw [HF.out, hr.out]; rfl, HW2.out⟩
      · have hkn2 : ¬ (k : Int) < (mn : Int) := by omega
        obtain rfl : k = mn := by omega
        have HF := Lib.hid (cmpL_end A B _ _ (by rw [hmn.out]; exact hall.out))
        go_wp2_with fail
        refine (unhide hint _ _ _).mono ?_
        rintro e w9 ⟨rfl, rfl⟩
        go_wp2_with fail
        go_ret
        exact ⟨by rw [HF.out]; rfl, HW.out⟩
/-- Are two lists of parts alike? -/
def sameB (A B : Nat → PV) (na nb : Nat) : Bool := decide ((lst A na).map Ky.norm = (lst B nb).map Ky.norm)
theorem sameB_len (A B : Nat → PV) (na nb : Nat) (h : na ≠ nb) : sameB A B na nb = false := by
  unfold sameB
  refine decide_eq_false fun e => h ?_
  have := congrArg List.length e
  simpa [lst_length] using this
theorem sameB_at (A B : Nat → PV) (n k : Nat) (hk : k < n) (h : (A k).nrm ≠ (B k).nrm) : sameB A B n n = false := by
  unfold sameB
  refine decide_eq_false fun e => h ((nrm_eq _ _).2 ?_)
  have := congrArg (fun l : List Ky.Part => l[k]?) e
  simpa [lst, hk] using this
theorem sameB_all (A B : Nat → PV) (n : Nat) (h : ∀ i, i < n → (A i).nrm = (B i).nrm) : sameB A B n n = true := by
  unfold sameB
  refine decide_eq_true ?_
  unfold lst
  rw [List.map_map, List.map_map]
  exact List.map_congr_left fun i hi => (nrm_eq _ _).1 (h i (List.mem_range.1 hi))
theorem undrew {B : Nat} {w w1 : World} (hb : Below B w.drew w1) : Below B w w1 := ⟨hb.os, hb.tape, hb.output, hb.size, hb.block⟩
end Go.Proofs.YtfgkgehlokabgaaDoor
