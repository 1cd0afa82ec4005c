/-
  Walks over layer 7: Log, Tear, of both.
-/
import Derived.Test.YtffmekcpkilkoaaDoorProg
import Derived.WalkKit
import Derived.WalkSpells
import Derived.WalkLawsBesides
import Derived.BigQuiet
import Derived.Below
import Derived.Lib.Hide
import Derived.IntWalk
import Derived.KernelRfl
namespace Go.Proofs.YtffmekcpkilkoaaDoor
open Go.RowKit

/-- Are these a place of the log? -/
def logOk (v i : Int) : Prop := 1 ≤ v ∧ v ≤ 1099511627776 ∧ 0 ≤ i ∧ i < 65536
set_option maxHeartbeats 1000000 in
theorem log_yes (v i : Int) (h : logOk v i) (w : World) :
    Calls Tryd.prog 12 #[.int .i64 v, .int .i64 i] w fun e w' => e = .returned (.tuple #[.int .u64 (v * 1048576 + i + 1), .nilIface]) ∧ w = w' := by
  obtain ⟨h1, h2, h3, h4⟩ := h
  go_enter Tryd.func12, Tryd.ntmps12
  go_wp2
  go_ret2
  exact ⟨rfl, rfl⟩
set_option maxHeartbeats 1000000 in
theorem logr_yes (v i : Int) (h : logOk v i) (w : World) :
    Calls Tryd.prog 17 #[.int .i64 v, .int .i64 i] w fun e w' => e = .returned (.tuple #[.int .u64 (v * 1048576 + i + 1), .int .i64 0]) ∧ w = w' := by
  obtain ⟨h1, h2, h3, h4⟩ := h
  go_enter Tryd.func17, Tryd.ntmps17
  go_wp2
  go_ret2
  exact ⟨rfl, rfl⟩
theorem log_cases {v i : Int} (h : ¬ logOk v i) : v < 1 ∨ (¬ v < 1 ∧ 1099511627776 < v) ∨ (¬ v < 1 ∧ ¬ 1099511627776 < v ∧ i < 0) ∨ (¬ v < 1 ∧ ¬ 1099511627776 < v ∧ ¬ i < 0 ∧ 65536 ≤ i) := by
  unfold logOk at h
  omega
set_option maxHeartbeats 1000000 in
theorem log_no (v i : Int) (h : ¬ logOk v i) (x : Value) (w : World) (hc : w.cell? ⟨0, 0, none⟩ = some x) :
    Calls Tryd.prog 12 #[.int .i64 v, .int .i64 i] w fun e w' => e = .returned (.tuple #[.int .u64 0, x]) ∧ ∃ n, w' = w.drewN n := by
  rcases log_cases h with h1 | ⟨h1, h2⟩ | ⟨h1, h2, h3⟩ | ⟨h1, h2, h3, h4⟩ <;>
  · clear h
    go_enter Tryd.func12, Tryd.ntmps12
    go_wp2
    go_quiet (fail)
    go_wp2
    go_ret2
    exact ⟨rfl, _, rfl⟩
set_option maxHeartbeats 1000000 in
theorem logr_no (v i : Int) (h : ¬ logOk v i) (w : World) :
    Calls Tryd.prog 17 #[.int .i64 v, .int .i64 i] w fun e w' => e = .returned (.tuple #[.int .u64 0, .int .i64 6]) ∧ w = w' := by
  rcases log_cases h with h1 | ⟨h1, h2⟩ | ⟨h1, h2, h3⟩ | ⟨h1, h2, h3, h4⟩ <;>
  · clear h
    go_enter Tryd.func17, Tryd.ntmps17
    go_wp2
    go_ret2
    exact ⟨rfl, rfl⟩
end Go.Proofs.YtffmekcpkilkoaaDoor
