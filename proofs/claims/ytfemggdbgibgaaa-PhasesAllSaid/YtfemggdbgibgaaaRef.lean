/-
  Walks over layer 22: the reference.
-/
import Derived.Test.YtfemggdbgibgaaaStep
namespace Go.Proofs.Ytfemggdbgibgaaa
open Go.RowKit

theorem goodB_iff (p a : Int) : goodB p a = true ↔ (p = 1 ∧ a = 1) ∨ (p = 2 ∧ (a = 0 ∨ a = 2 ∨ a = 3)) ∨ (p = 3 ∧ a = 0) ∨ (p = 4 ∧ a = 0) := by
  simp only [goodB, goodN, gp, List.getD_cons_zero, List.getD_cons_succ, Bool.or_eq_true, Bool.and_eq_true, beq_iff_eq, Bool.false_eq_true, false_or]
  omega
theorem goodB_no {p a : Int} (h : ¬ ((p = 1 ∧ a = 1) ∨ (p = 2 ∧ (a = 0 ∨ a = 2 ∨ a = 3)) ∨ (p = 3 ∧ a = 0) ∨ (p = 4 ∧ a = 0))) : goodB p a = false := by
  cases hg : goodB p a
  · rfl
  · exact absurd ((goodB_iff p a).1 hg) h
theorem goodB_yes {p a : Int} (h : (p = 1 ∧ a = 1) ∨ (p = 2 ∧ (a = 0 ∨ a = 2 ∨ a = 3)) ∨ (p = 3 ∧ a = 0) ∨ (p = 4 ∧ a = 0)) : goodB p a = true := (goodB_iff p a).2 h
theorem openB_iff (p : Int) : openB p = true ↔ p = 1 ∨ p = 2 := by
  simp only [openB, Bool.or_eq_true, beq_iff_eq]
set_option maxHeartbeats 1000000 in
theorem goodr_1 (a : Int) (w : World) :
    Calls Try.prog 13 #[.int .i64 1, .int .i64 a] w fun e w' => e = .returned (.bool (goodB 1 a)) ∧ w = w' := by
  by_cases k1 : a = 1
  · subst k1
    have HG := Lib.hid (show goodB 1 1 = true from by decide)
    go_enter Try.func13, Try.ntmps13
    go_wp2
    go_ret
    exact ⟨by rw [HG.out]; rfl, rfl⟩
  · have HG := Lib.hid (show goodB 1 a = false from goodB_no (by omega))
    have e1 := beq_no k1
    clear k1
    go_enter Try.func13, Try.ntmps13
    go_wp2
    go_ret
    exact ⟨by rw [HG.out]; rfl, rfl⟩
set_option maxHeartbeats 1000000 in
theorem goodr_2 (a : Int) (w : World) :
    Calls Try.prog 13 #[.int .i64 2, .int .i64 a] w fun e w' => e = .returned (.bool (goodB 2 a)) ∧ w = w' := by
  by_cases k0 : a = 0
  · subst k0
    have HG := Lib.hid (show goodB 2 0 = true from by decide)
    go_enter Try.func13, Try.ntmps13
    go_wp2
    go_ret
    exact ⟨by rw [HG.out]; rfl, rfl⟩
  by_cases k2 : a = 2
  · subst k2
    have HG := Lib.hid (show goodB 2 2 = true from by decide)
    go_enter Try.func13, Try.ntmps13
    go_wp2
    go_ret
    exact ⟨by rw [HG.out]; rfl, rfl⟩
  by_cases k3 : a = 3
  · subst k3
    have HG := Lib.hid (show goodB 2 3 = true from by decide)
    go_enter Try.func13, Try.ntmps13
    go_wp2
    go_ret
    exact ⟨by rw [HG.out]; rfl, rfl⟩
  · have HG := Lib.hid (show goodB 2 a = false from goodB_no (by omega))
    have e0 := beq_no k0
    have e2 := beq_no k2
    have e3 := beq_no k3
    clear k0 k2 k3
    go_enter Try.func13, Try.ntmps13
    go_wp2
    go_ret
    exact ⟨by rw [HG.out]; rfl, rfl⟩
set_option maxHeartbeats 1000000 in
theorem goodr_3 (a : Int) (w : World) :
    Calls Try.prog 13 #[.int .i64 3, .int .i64 a] w fun e w' => e = .returned (.bool (goodB 3 a)) ∧ w = w' := by
  by_cases k0 : a = 0
  · subst k0
    have HG := Lib.hid (show goodB 3 0 = true from by decide)
    go_enter Try.func13, Try.ntmps13
    go_wp2
    go_ret
    exact ⟨by rw [HG.out]; rfl, rfl⟩
  · have HG := Lib.hid (show goodB 3 a = false from goodB_no (by omega))
    have e0 := beq_no k0
    clear k0
    go_enter Try.func13, Try.ntmps13
    go_wp2
    go_ret
    exact ⟨by rw [HG.out]; rfl, rfl⟩
set_option maxHeartbeats 1000000 in
theorem goodr_4 (a : Int) (w : World) :
    Calls Try.prog 13 #[.int .i64 4, .int .i64 a] w fun e w' => e = .returned (.bool (goodB 4 a)) ∧ w = w' := by
  by_cases k0 : a = 0
  · subst k0
    have HG := Lib.hid (show goodB 4 0 = true from by decide)
    go_enter Try.func13, Try.ntmps13
    go_wp2
    go_ret
    exact ⟨by rw [HG.out]; rfl, rfl⟩
  · have HG := Lib.hid (show goodB 4 a = false from goodB_no (by omega))
    have e0 := beq_no k0
    clear k0
    go_enter Try.func13, Try.ntmps13
    go_wp2
    go_ret
    exact ⟨by rw [HG.out]; rfl, rfl⟩
set_option maxHeartbeats 1000000 in
theorem goodr_o (p a : Int) (h1 : p ≠ 1) (h2 : p ≠ 2) (h3 : p ≠ 3) (h4 : p ≠ 4) (w : World) :
    Calls Try.prog 13 #[.int .i64 p, .int .i64 a] w fun e w' => e = .returned (.bool (goodB p a)) ∧ w = w' := by
  · have HG := Lib.hid (show goodB p a = false from goodB_no (by omega))
    have e1 := beq_no h1
    have e2 := beq_no h2
    have e3 := beq_no h3
    have e4 := beq_no h4
    clear h1 h2 h3 h4
    go_enter Try.func13, Try.ntmps13
    go_wp2
    go_ret
    exact ⟨by rw [HG.out]; rfl, rfl⟩
set_option maxHeartbeats 1000000 in
theorem goodr_any (p a : Int) (w : World) :
    Calls Try.prog 13 #[.int .i64 p, .int .i64 a] w fun e w' => e = .returned (.bool (goodB p a)) ∧ w = w' := by
  by_cases h1 : p = 1
  · subst h1
    exact goodr_1 a w
  by_cases h2 : p = 2
  · subst h2
    exact goodr_2 a w
  by_cases h3 : p = 3
  · subst h3
    exact goodr_3 a w
  by_cases h4 : p = 4
  · subst h4
    exact goodr_4 a w
  exact goodr_o p a h1 h2 h3 h4 w
set_option maxRecDepth 100000 in
set_option maxHeartbeats 2000000 in
theorem step_n (p a x : Int) (hg : goodB p a = false) (w : World) :
    Calls Try.prog 8 #[.int .i64 p, .int .i64 a, .int .i64 x] w fun e w' => e = .returned (mv false p a 0 0 false false (-1)) ∧ Below w.heap.size w w' := by
  have HG := Lib.hid hg
  clear hg
  go_enter Try.func8, Try.ntmps8
  go_wp2_with fail
  refine (isgood_any _ _ _).mono ?_
  rintro e w1 ⟨rfl, hb⟩
  rw [HG.out]
  have HM := Lib.hid ((Made.start w p a).on hb)
  clear hb
  obtain ⟨⟨l0, c0, c1, c2, c3, c4, c5, c6, c7, f0⟩, ⟨l1, p0, p1⟩, ⟨l2, n0, n1, n2, n3, n4, n5, n6, n7⟩⟩ := HM.out.facts
  go_wp2
  refine bodyPost_ret (v := mv false p a 0 0 false false (-1)) (by rw [results_cell1 rfl]; go_simp) rfl ⟨rfl, ?_⟩
  repeat (first | with_reducible exact HM.out.bel | (with_reducible refine Below.setCell ?_ (by first | exact Nat.le_refl _ | omega) _) | (with_reducible refine Below.alloc_on ?_ rfl _))
set_option maxRecDepth 100000 in
set_option maxHeartbeats 2000000 in
theorem step_c (p a x : Int) (hg : goodB p a = true) (ho : openB p = false) (w : World) :
    Calls Try.prog 8 #[.int .i64 p, .int .i64 a, .int .i64 x] w fun e w' => e = .returned (mv false p a 0 0 false false (-1)) ∧ Below w.heap.size w w' := by
  have HG := Lib.hid hg
  have HO := Lib.hid ho
  clear hg ho
  go_enter Try.func8, Try.ntmps8
  go_wp2_with fail
  refine (isgood_any _ _ _).mono ?_
  rintro e w1 ⟨rfl, hb⟩
  rw [HG.out]
  have HM := Lib.hid ((Made.start w p a).on hb)
  clear hb
  obtain ⟨⟨l0, c0, c1, c2, c3, c4, c5, c6, c7, f0⟩, ⟨l1, p0, p1⟩, ⟨l2, n0, n1, n2, n3, n4, n5, n6, n7⟩⟩ := HM.out.facts
  go_wp2_with fail
  refine (open_any _ _).mono ?_
  rintro e w1' ⟨rfl, rfl⟩
  rw [HO.out]
  go_wp2
  refine bodyPost_ret (v := mv false p a 0 0 false false (-1)) (by rw [results_cell1 rfl]; go_simp) rfl ⟨rfl, ?_⟩
  repeat (first | with_reducible exact HM.out.bel | (with_reducible refine Below.setCell ?_ (by first | exact Nat.le_refl _ | omega) _) | (with_reducible refine Below.alloc_on ?_ rfl _))
set_option maxRecDepth 100000 in
set_option maxHeartbeats 2000000 in
theorem stepr_n (p a x : Int) (hg : goodB p a = false) (w : World) :
    Calls Try.prog 9 #[.int .i64 p, .int .i64 a, .int .i64 x] w fun e w' => e = .returned (mv false p a 0 0 false false (-1)) ∧ Below w.heap.size w w' := by
  have HG := Lib.hid hg
  clear hg
  go_enter Try.func9, Try.ntmps9
  go_wp2_with fail
  refine (goodr_any _ _ _).mono ?_
  rintro e w1 ⟨rfl, rfl⟩
  rw [HG.out]
  go_wp2
  refine bodyPost_ret (v := mv false p a 0 0 false false (-1)) (by rw [results_cell1 rfl]; go_simp) rfl ⟨rfl, ?_⟩
  repeat (first | with_reducible exact (Below.refl _ w) | (with_reducible refine Below.setCell ?_ (by first | exact Nat.le_refl _ | omega) _) | (with_reducible refine Below.alloc_on ?_ rfl _))
set_option maxRecDepth 100000 in
set_option maxHeartbeats 2000000 in
theorem stepr_c (p a x : Int) (hg : goodB p a = true) (ho : openB p = false) (w : World) :
    Calls Try.prog 9 #[.int .i64 p, .int .i64 a, .int .i64 x] w fun e w' => e = .returned (mv false p a 0 0 false false (-1)) ∧ Below w.heap.size w w' := by
  have HG := Lib.hid hg
  have HO := Lib.hid ho
  clear hg ho
  go_enter Try.func9, Try.ntmps9
  go_wp2_with fail
  refine (goodr_any _ _ _).mono ?_
  rintro e w1 ⟨rfl, rfl⟩
  rw [HG.out]
  go_wp2_with fail
  refine (openr_any _ _).mono ?_
  rintro e w1' ⟨rfl, rfl⟩
  rw [HO.out]
  go_wp2
  refine bodyPost_ret (v := mv false p a 0 0 false false (-1)) (by rw [results_cell1 rfl]; go_simp) rfl ⟨rfl, ?_⟩
  repeat (first | with_reducible exact (Below.refl _ w) | (with_reducible refine Below.setCell ?_ (by first | exact Nat.le_refl _ | omega) _) | (with_reducible refine Below.alloc_on ?_ rfl _))
end Go.Proofs.Ytfemggdbgibgaaa
