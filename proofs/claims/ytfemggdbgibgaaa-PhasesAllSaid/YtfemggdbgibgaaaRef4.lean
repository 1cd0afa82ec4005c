/-
  Walks over layer 22: the reference's table.
-/
import Derived.Test.YtfemggdbgibgaaaRef
namespace Go.Proofs.Ytfemggdbgibgaaa
open Go.RowKit

set_option maxRecDepth 100000 in
set_option maxHeartbeats 2000000 in
theorem stepr_231 (w : World) :
    Calls Try.prog 9 #[.int .i64 2, .int .i64 3, .int .i64 1] w fun e w' => e = .returned (mv true 2 0 0 0 false false 0) ∧ Below w.heap.size w w' := by
  go_enter Try.func9, Try.ntmps9
  go_wp2_with fail
  refine (goodr_any _ _ _).mono ?_
  rintro e w1 ⟨rfl, rfl⟩
  rw [show goodB 2 3 = true from by decide]
  go_wp2_with fail
  refine (openr_any _ _).mono ?_
  rintro e w1' ⟨rfl, rfl⟩
  rw [show openB 2 = true from by decide]
  go_wp2
  refine bodyPost_ret (v := mv true 2 0 0 0 false false 0) (by rw [results_cell1 rfl]; go_simp) rfl ⟨rfl, ?_⟩
  repeat (first | with_reducible exact (Below.refl _ w) | (with_reducible refine Below.setCell ?_ (by first | exact Nat.le_refl _ | omega) _) | (with_reducible refine Below.alloc_on ?_ rfl _))
set_option maxRecDepth 100000 in
set_option maxHeartbeats 2000000 in
theorem stepr_232 (w : World) :
    Calls Try.prog 9 #[.int .i64 2, .int .i64 3, .int .i64 2] w fun e w' => e = .returned (mv true 2 0 0 0 false false 0) ∧ Below w.heap.size w w' := by
  go_enter Try.func9, Try.ntmps9
  go_wp2_with fail
  refine (goodr_any _ _ _).mono ?_
  rintro e w1 ⟨rfl, rfl⟩
  rw [show goodB 2 3 = true from by decide]
  go_wp2_with fail
  refine (openr_any _ _).mono ?_
  rintro e w1' ⟨rfl, rfl⟩
  rw [show openB 2 = true from by decide]
  go_wp2
  refine bodyPost_ret (v := mv true 2 0 0 0 false false 0) (by rw [results_cell1 rfl]; go_simp) rfl ⟨rfl, ?_⟩
  repeat (first | with_reducible exact (Below.refl _ w) | (with_reducible refine Below.setCell ?_ (by first | exact Nat.le_refl _ | omega) _) | (with_reducible refine Below.alloc_on ?_ rfl _))
set_option maxRecDepth 100000 in
set_option maxHeartbeats 2000000 in
theorem stepr_233 (w : World) :
    Calls Try.prog 9 #[.int .i64 2, .int .i64 3, .int .i64 3] w fun e w' => e = .returned (mv false 2 3 0 0 false false (-1)) ∧ Below w.heap.size w w' := by
  go_enter Try.func9, Try.ntmps9
  go_wp2_with fail
  refine (goodr_any _ _ _).mono ?_
  rintro e w1 ⟨rfl, rfl⟩
  rw [show goodB 2 3 = true from by decide]
  go_wp2_with fail
  refine (openr_any _ _).mono ?_
  rintro e w1' ⟨rfl, rfl⟩
  rw [show openB 2 = true from by decide]
  go_wp2
  refine bodyPost_ret (v := mv false 2 3 0 0 false false (-1)) (by rw [results_cell1 rfl]; go_simp) rfl ⟨rfl, ?_⟩
  repeat (first | with_reducible exact (Below.refl _ w) | (with_reducible refine Below.setCell ?_ (by first | exact Nat.le_refl _ | omega) _) | (with_reducible refine Below.alloc_on ?_ rfl _))
set_option maxRecDepth 100000 in
set_option maxHeartbeats 2000000 in
theorem stepr_234 (w : World) :
    Calls Try.prog 9 #[.int .i64 2, .int .i64 3, .int .i64 4] w fun e w' => e = .returned (mv true 3 0 1 0 false false 2) ∧ Below w.heap.size w w' := by
  go_enter Try.func9, Try.ntmps9
  go_wp2_with fail
  refine (goodr_any _ _ _).mono ?_
  rintro e w1 ⟨rfl, rfl⟩
  rw [show goodB 2 3 = true from by decide]
  go_wp2_with fail
  refine (openr_any _ _).mono ?_
  rintro e w1' ⟨rfl, rfl⟩
  rw [show openB 2 = true from by decide]
  go_wp2
  refine bodyPost_ret (v := mv true 3 0 1 0 false false 2) (by rw [results_cell1 rfl]; go_simp) rfl ⟨rfl, ?_⟩
  repeat (first | with_reducible exact (Below.refl _ w) | (with_reducible refine Below.setCell ?_ (by first | exact Nat.le_refl _ | omega) _) | (with_reducible refine Below.alloc_on ?_ rfl _))
set_option maxRecDepth 100000 in
set_option maxHeartbeats 2000000 in
theorem stepr_235 (w : World) :
    Calls Try.prog 9 #[.int .i64 2, .int .i64 3, .int .i64 5] w fun e w' => e = .returned (mv true 4 0 2 0 false false 2) ∧ Below w.heap.size w w' := by
  go_enter Try.func9, Try.ntmps9
  go_wp2_with fail
  refine (goodr_any _ _ _).mono ?_
  rintro e w1 ⟨rfl, rfl⟩
  rw [show goodB 2 3 = true from by decide]
  go_wp2_with fail
  refine (openr_any _ _).mono ?_
  rintro e w1' ⟨rfl, rfl⟩
  rw [show openB 2 = true from by decide]
  go_wp2
  refine bodyPost_ret (v := mv true 4 0 2 0 false false 2) (by rw [results_cell1 rfl]; go_simp) rfl ⟨rfl, ?_⟩
  repeat (first | with_reducible exact (Below.refl _ w) | (with_reducible refine Below.setCell ?_ (by first | exact Nat.le_refl _ | omega) _) | (with_reducible refine Below.alloc_on ?_ rfl _))
set_option maxRecDepth 100000 in
set_option maxHeartbeats 2000000 in
theorem stepr_236 (w : World) :
    Calls Try.prog 9 #[.int .i64 2, .int .i64 3, .int .i64 6] w fun e w' => e = .returned (mv true 4 0 2 0 false false 2) ∧ Below w.heap.size w w' := by
  go_enter Try.func9, Try.ntmps9
  go_wp2_with fail
  refine (goodr_any _ _ _).mono ?_
  rintro e w1 ⟨rfl, rfl⟩
  rw [show goodB 2 3 = true from by decide]
  go_wp2_with fail
  refine (openr_any _ _).mono ?_
  rintro e w1' ⟨rfl, rfl⟩
  rw [show openB 2 = true from by decide]
  go_wp2
  refine bodyPost_ret (v := mv true 4 0 2 0 false false 2) (by rw [results_cell1 rfl]; go_simp) rfl ⟨rfl, ?_⟩
  repeat (first | with_reducible exact (Below.refl _ w) | (with_reducible refine Below.setCell ?_ (by first | exact Nat.le_refl _ | omega) _) | (with_reducible refine Below.alloc_on ?_ rfl _))
set_option maxRecDepth 100000 in
set_option maxHeartbeats 2000000 in
theorem stepr_237 (w : World) :
    Calls Try.prog 9 #[.int .i64 2, .int .i64 3, .int .i64 7] w fun e w' => e = .returned (mv false 2 3 0 0 false false (-1)) ∧ Below w.heap.size w w' := by
  go_enter Try.func9, Try.ntmps9
  go_wp2_with fail
  refine (goodr_any _ _ _).mono ?_
  rintro e w1 ⟨rfl, rfl⟩
  rw [show goodB 2 3 = true from by decide]
  go_wp2_with fail
  refine (openr_any _ _).mono ?_
  rintro e w1' ⟨rfl, rfl⟩
  rw [show openB 2 = true from by decide]
  go_wp2
  refine bodyPost_ret (v := mv false 2 3 0 0 false false (-1)) (by rw [results_cell1 rfl]; go_simp) rfl ⟨rfl, ?_⟩
  repeat (first | with_reducible exact (Below.refl _ w) | (with_reducible refine Below.setCell ?_ (by first | exact Nat.le_refl _ | omega) _) | (with_reducible refine Below.alloc_on ?_ rfl _))
set_option maxRecDepth 100000 in
set_option maxHeartbeats 2000000 in
theorem stepr_238 (w : World) :
    Calls Try.prog 9 #[.int .i64 2, .int .i64 3, .int .i64 8] w fun e w' => e = .returned (mv true 2 3 0 0 false false 1) ∧ Below w.heap.size w w' := by
  go_enter Try.func9, Try.ntmps9
  go_wp2_with fail
  refine (goodr_any _ _ _).mono ?_
  rintro e w1 ⟨rfl, rfl⟩
  rw [show goodB 2 3 = true from by decide]
  go_wp2_with fail
  refine (openr_any _ _).mono ?_
  rintro e w1' ⟨rfl, rfl⟩
  rw [show openB 2 = true from by decide]
  go_wp2
  refine bodyPost_ret (v := mv true 2 3 0 0 false false 1) (by rw [results_cell1 rfl]; go_simp) rfl ⟨rfl, ?_⟩
  repeat (first | with_reducible exact (Below.refl _ w) | (with_reducible refine Below.setCell ?_ (by first | exact Nat.le_refl _ | omega) _) | (with_reducible refine Below.alloc_on ?_ rfl _))
set_option maxRecDepth 100000 in
set_option maxHeartbeats 2000000 in
theorem stepr_23o (x : Int) (h1 : x ≠ 1) (h2 : x ≠ 2) (h3 : x ≠ 3) (h4 : x ≠ 4) (h5 : x ≠ 5) (h6 : x ≠ 6) (h7 : x ≠ 7) (h8 : x ≠ 8) (w : World) :
    Calls Try.prog 9 #[.int .i64 2, .int .i64 3, .int .i64 x] w fun e w' => e = .returned (mv false 2 3 0 0 false false (-1)) ∧ Below w.heap.size w w' := by
  have e1 := beq_no h1
  have e2 := beq_no h2
  have e3 := beq_no h3
  have e4 := beq_no h4
  have e5 := beq_no h5
  have e6 := beq_no h6
  have e7 := beq_no h7
  have e8 := beq_no h8
  clear h1 h2 h3 h4 h5 h6 h7 h8
  go_enter Try.func9, Try.ntmps9
  go_wp2_with fail
  refine (goodr_any _ _ _).mono ?_
  rintro e w1 ⟨rfl, rfl⟩
  rw [show goodB 2 3 = true from by decide]
  go_wp2_with fail
  refine (openr_any _ _).mono ?_
  rintro e w1' ⟨rfl, rfl⟩
  rw [show openB 2 = true from by decide]
  go_wp2
  refine bodyPost_ret (v := mv false 2 3 0 0 false false (-1)) (by rw [results_cell1 rfl]; go_simp) rfl ⟨rfl, ?_⟩
  repeat (first | with_reducible exact (Below.refl _ w) | (with_reducible refine Below.setCell ?_ (by first | exact Nat.le_refl _ | omega) _) | (with_reducible refine Below.alloc_on ?_ rfl _))
end Go.Proofs.Ytfemggdbgibgaaa
