/-
  Walks over layer 22: the table, at the pair (2, 3).
-/
import Derived.Test.YtfemggdbgibgaaaStep
namespace Go.Proofs.Ytfemggdbgibgaaa
open Go.RowKit

set_option maxRecDepth 100000 in
set_option maxHeartbeats 2000000 in
theorem step_231 (w : World) :
    Calls Try.prog 8 #[.int .i64 2, .int .i64 3, .int .i64 1] w fun e w' => e = .returned (mv true 2 0 0 0 false false 0) ∧ Below w.heap.size w w' := by
  go_enter Try.func8, Try.ntmps8
  go_wp2_with fail
  refine (isgood_any _ _ _).mono ?_
  rintro e w1 ⟨rfl, hb⟩
  rw [show goodB 2 3 = true from by decide]
  have HM := Lib.hid ((Made.start w 2 3).on hb)
  clear hb
  obtain ⟨⟨l0, c0, c1, c2, c3, c4, c5, c6, c7, f0⟩, ⟨l1, p0, p1⟩, ⟨l2, n0, n1, n2, n3, n4, n5, n6, n7⟩⟩ := HM.out.facts
  go_wp2_with fail
  refine (open_any _ _).mono ?_
  rintro e w1' ⟨rfl, rfl⟩
  rw [show openB 2 = true from by decide]
  go_wp2_with fail
  refine (said_no _ (by omega) (by omega) (by omega) _).mono ?_
  rintro e w2 ⟨rfl, hb⟩
  have HM2 := Lib.hid (HM.out.on hb)
  clear hb HM
  clear l0 c0 c1 c2 c3 c4 c5 c6 c7 f0 l1 p0 p1 l2 n0 n1 n2 n3 n4 n5 n6 n7
  obtain ⟨⟨l0, c0, c1, c2, c3, c4, c5, c6, c7, f0⟩, ⟨l1, p0, p1⟩, ⟨l2, n0, n1, n2, n3, n4, n5, n6, n7⟩⟩ := HM2.out.facts
  go_wp2_with fail
  refine (to_any _ _ _ _).mono ?_
  rintro e w4 ⟨rfl, hb⟩
  have HM4 := Lib.hid (Made.on (((HM2.out.alloc _).alloc _).alloc _) hb)
  clear hb HM2
  clear l0 c0 c1 c2 c3 c4 c5 c6 c7 f0 l1 p0 p1 l2 n0 n1 n2 n3 n4 n5 n6 n7
  obtain ⟨⟨l0, c0, c1, c2, c3, c4, c5, c6, c7, f0⟩, ⟨l1, p0, p1⟩, ⟨l2, n0, n1, n2, n3, n4, n5, n6, n7⟩⟩ := HM4.out.facts
  go_wp2
  refine bodyPost_ret (v := mv true 2 0 0 0 false false 0) (by rw [results_cell1 rfl]; go_simp) rfl ⟨rfl, ?_⟩
  repeat (first | with_reducible exact HM4.out.bel | (with_reducible refine Below.setCell ?_ (by first | exact Nat.le_refl _ | omega) _) | (with_reducible refine Below.alloc_on ?_ rfl _))
set_option maxRecDepth 100000 in
set_option maxHeartbeats 2000000 in
theorem step_232 (w : World) :
    Calls Try.prog 8 #[.int .i64 2, .int .i64 3, .int .i64 2] w fun e w' => e = .returned (mv true 2 0 0 0 false false 0) ∧ Below w.heap.size w w' := by
  go_enter Try.func8, Try.ntmps8
  go_wp2_with fail
  refine (isgood_any _ _ _).mono ?_
  rintro e w1 ⟨rfl, hb⟩
  rw [show goodB 2 3 = true from by decide]
  have HM := Lib.hid ((Made.start w 2 3).on hb)
  clear hb
  obtain ⟨⟨l0, c0, c1, c2, c3, c4, c5, c6, c7, f0⟩, ⟨l1, p0, p1⟩, ⟨l2, n0, n1, n2, n3, n4, n5, n6, n7⟩⟩ := HM.out.facts
  go_wp2_with fail
  refine (open_any _ _).mono ?_
  rintro e w1' ⟨rfl, rfl⟩
  rw [show openB 2 = true from by decide]
  go_wp2_with fail
  refine (said_no _ (by omega) (by omega) (by omega) _).mono ?_
  rintro e w2 ⟨rfl, hb⟩
  have HM2 := Lib.hid (HM.out.on hb)
  clear hb HM
  clear l0 c0 c1 c2 c3 c4 c5 c6 c7 f0 l1 p0 p1 l2 n0 n1 n2 n3 n4 n5 n6 n7
  obtain ⟨⟨l0, c0, c1, c2, c3, c4, c5, c6, c7, f0⟩, ⟨l1, p0, p1⟩, ⟨l2, n0, n1, n2, n3, n4, n5, n6, n7⟩⟩ := HM2.out.facts
  go_wp2_with fail
  refine (to_any _ _ _ _).mono ?_
  rintro e w4 ⟨rfl, hb⟩
  have HM4 := Lib.hid (Made.on (((HM2.out.alloc _).alloc _).alloc _) hb)
  clear hb HM2
  clear l0 c0 c1 c2 c3 c4 c5 c6 c7 f0 l1 p0 p1 l2 n0 n1 n2 n3 n4 n5 n6 n7
  obtain ⟨⟨l0, c0, c1, c2, c3, c4, c5, c6, c7, f0⟩, ⟨l1, p0, p1⟩, ⟨l2, n0, n1, n2, n3, n4, n5, n6, n7⟩⟩ := HM4.out.facts
  go_wp2
  refine bodyPost_ret (v := mv true 2 0 0 0 false false 0) (by rw [results_cell1 rfl]; go_simp) rfl ⟨rfl, ?_⟩
  repeat (first | with_reducible exact HM4.out.bel | (with_reducible refine Below.setCell ?_ (by first | exact Nat.le_refl _ | omega) _) | (with_reducible refine Below.alloc_on ?_ rfl _))
set_option maxRecDepth 100000 in
set_option maxHeartbeats 2000000 in
theorem step_233 (w : World) :
    Calls Try.prog 8 #[.int .i64 2, .int .i64 3, .int .i64 3] w fun e w' => e = .returned (mv false 2 3 0 0 false false (-1)) ∧ Below w.heap.size w w' := by
  go_enter Try.func8, Try.ntmps8
  go_wp2_with fail
  refine (isgood_any _ _ _).mono ?_
  rintro e w1 ⟨rfl, hb⟩
  rw [show goodB 2 3 = true from by decide]
  have HM := Lib.hid ((Made.start w 2 3).on hb)
  clear hb
  obtain ⟨⟨l0, c0, c1, c2, c3, c4, c5, c6, c7, f0⟩, ⟨l1, p0, p1⟩, ⟨l2, n0, n1, n2, n3, n4, n5, n6, n7⟩⟩ := HM.out.facts
  go_wp2_with fail
  refine (open_any _ _).mono ?_
  rintro e w1' ⟨rfl, rfl⟩
  rw [show openB 2 = true from by decide]
  go_wp2_with fail
  refine (said_no _ (by omega) (by omega) (by omega) _).mono ?_
  rintro e w2 ⟨rfl, hb⟩
  have HM2 := Lib.hid (HM.out.on hb)
  clear hb HM
  clear l0 c0 c1 c2 c3 c4 c5 c6 c7 f0 l1 p0 p1 l2 n0 n1 n2 n3 n4 n5 n6 n7
  obtain ⟨⟨l0, c0, c1, c2, c3, c4, c5, c6, c7, f0⟩, ⟨l1, p0, p1⟩, ⟨l2, n0, n1, n2, n3, n4, n5, n6, n7⟩⟩ := HM2.out.facts
  have l3 : w.heap.size < w2.heap.size + 1 := by omega
  have l4 : w.heap.size < w2.heap.size + 1 + 1 := by omega
  go_wp2
  refine bodyPost_ret (v := mv false 2 3 0 0 false false (-1)) (by rw [results_cell1 rfl]; go_simp) rfl ⟨rfl, ?_⟩
  repeat (first | with_reducible exact HM2.out.bel | (with_reducible refine Below.setCell ?_ (by first | exact Nat.le_refl _ | omega) _) | (with_reducible refine Below.alloc_on ?_ rfl _))
set_option maxRecDepth 100000 in
set_option maxHeartbeats 2000000 in
theorem step_234 (w : World) :
    Calls Try.prog 8 #[.int .i64 2, .int .i64 3, .int .i64 4] w fun e w' => e = .returned (mv true 3 0 1 0 false false 2) ∧ Below w.heap.size w w' := by
  go_enter Try.func8, Try.ntmps8
  go_wp2_with fail
  refine (isgood_any _ _ _).mono ?_
  rintro e w1 ⟨rfl, hb⟩
  rw [show goodB 2 3 = true from by decide]
  have HM := Lib.hid ((Made.start w 2 3).on hb)
  clear hb
  obtain ⟨⟨l0, c0, c1, c2, c3, c4, c5, c6, c7, f0⟩, ⟨l1, p0, p1⟩, ⟨l2, n0, n1, n2, n3, n4, n5, n6, n7⟩⟩ := HM.out.facts
  go_wp2_with fail
  refine (open_any _ _).mono ?_
  rintro e w1' ⟨rfl, rfl⟩
  rw [show openB 2 = true from by decide]
  go_wp2_with fail
  refine (said_4 _).mono ?_
  rintro e w2 ⟨rfl, hb⟩
  have HM2 := Lib.hid (HM.out.on hb)
  clear hb HM
  clear l0 c0 c1 c2 c3 c4 c5 c6 c7 f0 l1 p0 p1 l2 n0 n1 n2 n3 n4 n5 n6 n7
  obtain ⟨⟨l0, c0, c1, c2, c3, c4, c5, c6, c7, f0⟩, ⟨l1, p0, p1⟩, ⟨l2, n0, n1, n2, n3, n4, n5, n6, n7⟩⟩ := HM2.out.facts
  go_wp2
  refine bodyPost_ret (v := mv true 3 0 1 0 false false 2) (by rw [results_cell1 rfl]; go_simp) rfl ⟨rfl, ?_⟩
  repeat (first | with_reducible exact HM2.out.bel | (with_reducible refine Below.setCell ?_ (by first | exact Nat.le_refl _ | omega) _) | (with_reducible refine Below.alloc_on ?_ rfl _))
set_option maxRecDepth 100000 in
set_option maxHeartbeats 2000000 in
theorem step_235 (w : World) :
    Calls Try.prog 8 #[.int .i64 2, .int .i64 3, .int .i64 5] w fun e w' => e = .returned (mv true 4 0 2 0 false false 2) ∧ Below w.heap.size w w' := by
  go_enter Try.func8, Try.ntmps8
  go_wp2_with fail
  refine (isgood_any _ _ _).mono ?_
  rintro e w1 ⟨rfl, hb⟩
  rw [show goodB 2 3 = true from by decide]
  have HM := Lib.hid ((Made.start w 2 3).on hb)
  clear hb
  obtain ⟨⟨l0, c0, c1, c2, c3, c4, c5, c6, c7, f0⟩, ⟨l1, p0, p1⟩, ⟨l2, n0, n1, n2, n3, n4, n5, n6, n7⟩⟩ := HM.out.facts
  go_wp2_with fail
  refine (open_any _ _).mono ?_
  rintro e w1' ⟨rfl, rfl⟩
  rw [show openB 2 = true from by decide]
  go_wp2_with fail
  refine (said_56 _ (by omega) _).mono ?_
  rintro e w2 ⟨rfl, hb⟩
  have HM2 := Lib.hid (HM.out.on hb)
  clear hb HM
  clear l0 c0 c1 c2 c3 c4 c5 c6 c7 f0 l1 p0 p1 l2 n0 n1 n2 n3 n4 n5 n6 n7
  obtain ⟨⟨l0, c0, c1, c2, c3, c4, c5, c6, c7, f0⟩, ⟨l1, p0, p1⟩, ⟨l2, n0, n1, n2, n3, n4, n5, n6, n7⟩⟩ := HM2.out.facts
  go_wp2
  refine bodyPost_ret (v := mv true 4 0 2 0 false false 2) (by rw [results_cell1 rfl]; go_simp) rfl ⟨rfl, ?_⟩
  repeat (first | with_reducible exact HM2.out.bel | (with_reducible refine Below.setCell ?_ (by first | exact Nat.le_refl _ | omega) _) | (with_reducible refine Below.alloc_on ?_ rfl _))
set_option maxRecDepth 100000 in
set_option maxHeartbeats 2000000 in
theorem step_236 (w : World) :
    Calls Try.prog 8 #[.int .i64 2, .int .i64 3, .int .i64 6] w fun e w' => e = .returned (mv true 4 0 2 0 false false 2) ∧ Below w.heap.size w w' := by
  go_enter Try.func8, Try.ntmps8
  go_wp2_with fail
  refine (isgood_any _ _ _).mono ?_
  rintro e w1 ⟨rfl, hb⟩
  rw [show goodB 2 3 = true from by decide]
  have HM := Lib.hid ((Made.start w 2 3).on hb)
  clear hb
  obtain ⟨⟨l0, c0, c1, c2, c3, c4, c5, c6, c7, f0⟩, ⟨l1, p0, p1⟩, ⟨l2, n0, n1, n2, n3, n4, n5, n6, n7⟩⟩ := HM.out.facts
  go_wp2_with fail
  refine (open_any _ _).mono ?_
  rintro e w1' ⟨rfl, rfl⟩
  rw [show openB 2 = true from by decide]
  go_wp2_with fail
  refine (said_56 _ (by omega) _).mono ?_
  rintro e w2 ⟨rfl, hb⟩
  have HM2 := Lib.hid (HM.out.on hb)
  clear hb HM
  clear l0 c0 c1 c2 c3 c4 c5 c6 c7 f0 l1 p0 p1 l2 n0 n1 n2 n3 n4 n5 n6 n7
  obtain ⟨⟨l0, c0, c1, c2, c3, c4, c5, c6, c7, f0⟩, ⟨l1, p0, p1⟩, ⟨l2, n0, n1, n2, n3, n4, n5, n6, n7⟩⟩ := HM2.out.facts
  go_wp2
  refine bodyPost_ret (v := mv true 4 0 2 0 false false 2) (by rw [results_cell1 rfl]; go_simp) rfl ⟨rfl, ?_⟩
  repeat (first | with_reducible exact HM2.out.bel | (with_reducible refine Below.setCell ?_ (by first | exact Nat.le_refl _ | omega) _) | (with_reducible refine Below.alloc_on ?_ rfl _))
set_option maxRecDepth 100000 in
set_option maxHeartbeats 2000000 in
theorem step_237 (w : World) :
    Calls Try.prog 8 #[.int .i64 2, .int .i64 3, .int .i64 7] w fun e w' => e = .returned (mv false 2 3 0 0 false false (-1)) ∧ Below w.heap.size w w' := by
  go_enter Try.func8, Try.ntmps8
  go_wp2_with fail
  refine (isgood_any _ _ _).mono ?_
  rintro e w1 ⟨rfl, hb⟩
  rw [show goodB 2 3 = true from by decide]
  have HM := Lib.hid ((Made.start w 2 3).on hb)
  clear hb
  obtain ⟨⟨l0, c0, c1, c2, c3, c4, c5, c6, c7, f0⟩, ⟨l1, p0, p1⟩, ⟨l2, n0, n1, n2, n3, n4, n5, n6, n7⟩⟩ := HM.out.facts
  go_wp2_with fail
  refine (open_any _ _).mono ?_
  rintro e w1' ⟨rfl, rfl⟩
  rw [show openB 2 = true from by decide]
  go_wp2_with fail
  refine (said_no _ (by omega) (by omega) (by omega) _).mono ?_
  rintro e w2 ⟨rfl, hb⟩
  have HM2 := Lib.hid (HM.out.on hb)
  clear hb HM
  clear l0 c0 c1 c2 c3 c4 c5 c6 c7 f0 l1 p0 p1 l2 n0 n1 n2 n3 n4 n5 n6 n7
  obtain ⟨⟨l0, c0, c1, c2, c3, c4, c5, c6, c7, f0⟩, ⟨l1, p0, p1⟩, ⟨l2, n0, n1, n2, n3, n4, n5, n6, n7⟩⟩ := HM2.out.facts
  have l3 : w.heap.size < w2.heap.size + 1 := by omega
  have l4 : w.heap.size < w2.heap.size + 1 + 1 := by omega
  go_wp2
  refine bodyPost_ret (v := mv false 2 3 0 0 false false (-1)) (by rw [results_cell1 rfl]; go_simp) rfl ⟨rfl, ?_⟩
  repeat (first | with_reducible exact HM2.out.bel | (with_reducible refine Below.setCell ?_ (by first | exact Nat.le_refl _ | omega) _) | (with_reducible refine Below.alloc_on ?_ rfl _))
set_option maxRecDepth 100000 in
set_option maxHeartbeats 2000000 in
theorem step_238 (w : World) :
    Calls Try.prog 8 #[.int .i64 2, .int .i64 3, .int .i64 8] w fun e w' => e = .returned (mv true 2 3 0 0 false false 1) ∧ Below w.heap.size w w' := by
  go_enter Try.func8, Try.ntmps8
  go_wp2_with fail
  refine (isgood_any _ _ _).mono ?_
  rintro e w1 ⟨rfl, hb⟩
  rw [show goodB 2 3 = true from by decide]
  have HM := Lib.hid ((Made.start w 2 3).on hb)
  clear hb
  obtain ⟨⟨l0, c0, c1, c2, c3, c4, c5, c6, c7, f0⟩, ⟨l1, p0, p1⟩, ⟨l2, n0, n1, n2, n3, n4, n5, n6, n7⟩⟩ := HM.out.facts
  go_wp2_with fail
  refine (open_any _ _).mono ?_
  rintro e w1' ⟨rfl, rfl⟩
  rw [show openB 2 = true from by decide]
  go_wp2_with fail
  refine (said_no _ (by omega) (by omega) (by omega) _).mono ?_
  rintro e w2 ⟨rfl, hb⟩
  have HM2 := Lib.hid (HM.out.on hb)
  clear hb HM
  clear l0 c0 c1 c2 c3 c4 c5 c6 c7 f0 l1 p0 p1 l2 n0 n1 n2 n3 n4 n5 n6 n7
  obtain ⟨⟨l0, c0, c1, c2, c3, c4, c5, c6, c7, f0⟩, ⟨l1, p0, p1⟩, ⟨l2, n0, n1, n2, n3, n4, n5, n6, n7⟩⟩ := HM2.out.facts
  go_wp2_with fail
  refine (to_any _ _ _ _).mono ?_
  rintro e w4 ⟨rfl, hb⟩
  have HM4 := Lib.hid (Made.on (((HM2.out.alloc _).alloc _).alloc _) hb)
  clear hb HM2
  clear l0 c0 c1 c2 c3 c4 c5 c6 c7 f0 l1 p0 p1 l2 n0 n1 n2 n3 n4 n5 n6 n7
  obtain ⟨⟨l0, c0, c1, c2, c3, c4, c5, c6, c7, f0⟩, ⟨l1, p0, p1⟩, ⟨l2, n0, n1, n2, n3, n4, n5, n6, n7⟩⟩ := HM4.out.facts
  go_wp2
  refine bodyPost_ret (v := mv true 2 3 0 0 false false 1) (by rw [results_cell1 rfl]; go_simp) rfl ⟨rfl, ?_⟩
  repeat (first | with_reducible exact HM4.out.bel | (with_reducible refine Below.setCell ?_ (by first | exact Nat.le_refl _ | omega) _) | (with_reducible refine Below.alloc_on ?_ rfl _))
set_option maxRecDepth 100000 in
set_option maxHeartbeats 2000000 in
theorem step_23o (x : Int) (h1 : x ≠ 1) (h2 : x ≠ 2) (h3 : x ≠ 3) (h4 : x ≠ 4) (h5 : x ≠ 5) (h6 : x ≠ 6) (h7 : x ≠ 7) (h8 : x ≠ 8) (w : World) :
    Calls Try.prog 8 #[.int .i64 2, .int .i64 3, .int .i64 x] w fun e w' => e = .returned (mv false 2 3 0 0 false false (-1)) ∧ Below w.heap.size w w' := by
  have e1 := beq_no h1
  have e2 := beq_no h2
  have e3 := beq_no h3
  have e7 := beq_no h7
  have e8 := beq_no h8
  have HS := fun W => said_no x h4 h5 h6 W
  clear h1 h2 h3 h4 h5 h6 h7 h8
  go_enter Try.func8, Try.ntmps8
  go_wp2_with fail
  refine (isgood_any _ _ _).mono ?_
  rintro e w1 ⟨rfl, hb⟩
  rw [show goodB 2 3 = true from by decide]
  have HM := Lib.hid ((Made.start w 2 3).on hb)
  clear hb
  obtain ⟨⟨l0, c0, c1, c2, c3, c4, c5, c6, c7, f0⟩, ⟨l1, p0, p1⟩, ⟨l2, n0, n1, n2, n3, n4, n5, n6, n7⟩⟩ := HM.out.facts
  go_wp2_with fail
  refine (open_any _ _).mono ?_
  rintro e w1' ⟨rfl, rfl⟩
  rw [show openB 2 = true from by decide]
  go_wp2_with fail
  refine (HS _).mono ?_
  rintro e w2 ⟨rfl, hb⟩
  have HM2 := Lib.hid (HM.out.on hb)
  clear hb HM
  clear l0 c0 c1 c2 c3 c4 c5 c6 c7 f0 l1 p0 p1 l2 n0 n1 n2 n3 n4 n5 n6 n7
  obtain ⟨⟨l0, c0, c1, c2, c3, c4, c5, c6, c7, f0⟩, ⟨l1, p0, p1⟩, ⟨l2, n0, n1, n2, n3, n4, n5, n6, n7⟩⟩ := HM2.out.facts
  have l3 : w.heap.size < w2.heap.size + 1 := by omega
  have l4 : w.heap.size < w2.heap.size + 1 + 1 := by omega
  go_wp2
  refine bodyPost_ret (v := mv false 2 3 0 0 false false (-1)) (by rw [results_cell1 rfl]; go_simp) rfl ⟨rfl, ?_⟩
  repeat (first | with_reducible exact HM2.out.bel | (with_reducible refine Below.setCell ?_ (by first | exact Nat.le_refl _ | omega) _) | (with_reducible refine Below.alloc_on ?_ rfl _))
end Go.Proofs.Ytfemggdbgibgaaa
