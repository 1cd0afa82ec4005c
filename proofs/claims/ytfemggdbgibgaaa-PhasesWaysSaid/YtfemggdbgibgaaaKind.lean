/-
  Walks over statements of layer 22: kind.
-/
import Derived.Test.YtfemggdbgibgaaaTable
namespace Go.Proofs.Ytfemggdbgibgaaa
open Go.RowKit

theorem kind_place (x : Int) : ∃ k : Int, 1 ≤ k ∧ k ≤ 8 ∧ wrap64 (1 + wrap64 ((IntKind.u64.wrap x).tmod 8)) = k := by
  have h0 : 0 ≤ IntKind.u64.wrap x := by rw [IntKind.wrap_u64]; omega
  have h1 : (IntKind.u64.wrap x).tmod 8 = IntKind.u64.wrap x % 8 := Int.tmod_eq_emod_of_nonneg h0
  rw [h1, IntWalk.wrap64_in (IntKind.u64.wrap x % 8) ⟨by omega, by omega⟩, IntWalk.wrap64_in (1 + IntKind.u64.wrap x % 8) ⟨by omega, by omega⟩]
  exact ⟨_, by omega, by omega, rfl⟩
set_option maxHeartbeats 1000000 in
theorem kind_any (x : Int) (w : World) :
    Calls Try.prog 20 #[.int .i64 x] w fun e w' => (∃ k : Int, 1 ≤ k ∧ k ≤ 8 ∧ e = .returned (.int .i64 k)) ∧ w = w' := by
  go_enter Try.func20, Try.ntmps20
  go_wp2
  go_ret
  obtain ⟨k, h1, h2, h3⟩ := kind_place x
  exact ⟨⟨k, h1, h2, by rw [← h3]; rfl⟩, rfl⟩
end Go.Proofs.Ytfemggdbgibgaaa
