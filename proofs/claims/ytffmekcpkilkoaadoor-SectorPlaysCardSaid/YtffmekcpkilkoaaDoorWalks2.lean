/-
  Walks over layer 7: Tear, of both.
-/
import Derived.Test.YtffmekcpkilkoaaDoorWalks
import Derived.BigRegion
namespace Go.Proofs.YtffmekcpkilkoaaDoor
open Go.RowKit

/-- What stands of a fresh text over an old one, if its first n bytes were done. -/
def tornS (old fresh : ByteArray) (n : Nat) : ByteArray := fresh.extract 0 n ++ old.extract n old.size
set_option maxHeartbeats 1000000 in
theorem tear_yes (old fresh : ByteArray) (n : Nat) (ho : (old.size : Int) = 256) (hf : (fresh.size : Int) = 256) (hn : (n : Int) ≤ 256) (w : World) :
    Calls Tryd.prog 18 #[.string old, .string fresh, .int .i64 n] w fun e w' => e = .returned (.tuple #[.string (tornS old fresh n), .nilIface]) ∧ ∃ k, w' = w.drewN k := by
  have h1 : ((old.size : Int) != 256) = false := by rw [ho]; rfl
  have h2 : ((fresh.size : Int) != 256) = false := by rw [hf]; rfl
  have h3 : n ≤ fresh.size := by omega
  have h4 : n ≤ old.size := by omega
  have h5 : old.size ≤ 256 := by omega
  have h6 : fresh.size ≤ 256 := by omega
  clear ho hf
  go_enter Tryd.func18, Tryd.ntmps18
  go_wp2
  go_quiet (fail)
  go_wp2
  go_ret2
  exact ⟨rfl, _, rfl⟩
set_option maxHeartbeats 1000000 in
theorem tearr_yes (old fresh : ByteArray) (n : Nat) (ho : (old.size : Int) = 256) (hf : (fresh.size : Int) = 256) (hn : (n : Int) ≤ 256) (w : World) :
    Calls Tryd.prog 19 #[.string old, .string fresh, .int .i64 n] w fun e w' => e = .returned (.tuple #[.string (tornS old fresh n), .int .i64 0]) ∧ ∃ k, w' = w.drewN k := by
  have h1 : ((old.size : Int) != 256) = false := by rw [ho]; rfl
  have h2 : ((fresh.size : Int) != 256) = false := by rw [hf]; rfl
  have h3 : n ≤ fresh.size := by omega
  have h4 : n ≤ old.size := by omega
  have h5 : old.size ≤ 256 := by omega
  have h6 : fresh.size ≤ 256 := by omega
  clear ho hf
  go_enter Tryd.func19, Tryd.ntmps19
  go_wp2
  go_quiet (fail)
  go_wp2
  go_ret2
  exact ⟨rfl, _, rfl⟩
set_option maxHeartbeats 1000000 in
theorem tear_form (old fresh : ByteArray) (n : Int) (h : old.size ≠ 256 ∨ fresh.size ≠ 256) (x : Value) (w : World) (hc : w.cell? ⟨2, 0, none⟩ = some x) :
    Calls Tryd.prog 18 #[.string old, .string fresh, .int .i64 n] w fun e w' => e = .returned (.tuple #[.string ⟨#[]⟩, x]) ∧ ∃ k, w' = w.drewN k := by
  by_cases h1 : old.size = 256
  · have e1 : ((old.size : Int) != 256) = false := by rw [h1]; rfl
    have e2 : ((fresh.size : Int) != 256) = true := bne_iff_ne.2 (by omega)
    clear h h1
    go_enter Tryd.func18, Tryd.ntmps18
    go_wp2
    go_quiet (fail)
    go_wp2
    go_ret2
    exact ⟨rfl, _, rfl⟩
  · have e1 : ((old.size : Int) != 256) = true := bne_iff_ne.2 (by omega)
    clear h h1
    go_enter Tryd.func18, Tryd.ntmps18
    go_wp2
    go_quiet (fail)
    go_wp2
    go_ret2
    exact ⟨rfl, _, rfl⟩
set_option maxHeartbeats 1000000 in
theorem tear_range (old fresh : ByteArray) (n : Int) (ho : old.size = 256) (hf : fresh.size = 256) (h : n < 0 ∨ 256 < n) (x : Value) (w : World) (hc : w.cell? ⟨0, 0, none⟩ = some x) :
    Calls Tryd.prog 18 #[.string old, .string fresh, .int .i64 n] w fun e w' => e = .returned (.tuple #[.string ⟨#[]⟩, x]) ∧ ∃ k, w' = w.drewN k := by
  have e1 : ((old.size : Int) != 256) = false := by rw [ho]; rfl
  have e2 : ((fresh.size : Int) != 256) = false := by rw [hf]; rfl
  clear ho hf
  by_cases h1 : n < 0
  · clear h
    go_enter Tryd.func18, Tryd.ntmps18
    go_wp2
    go_quiet (fail)
    go_wp2
    go_ret2
    exact ⟨rfl, _, rfl⟩
  · have h2 : 256 < n := by omega
    clear h
    go_enter Tryd.func18, Tryd.ntmps18
    go_wp2
    go_quiet (fail)
    go_wp2
    go_ret2
    exact ⟨rfl, _, rfl⟩
set_option maxHeartbeats 1000000 in
theorem tearr_form (old fresh : ByteArray) (n : Int) (h : old.size ≠ 256 ∨ fresh.size ≠ 256) (w : World) :
    Calls Tryd.prog 19 #[.string old, .string fresh, .int .i64 n] w fun e w' => e = .returned (.tuple #[.string ⟨#[]⟩, .int .i64 7]) ∧ w = w' := by
  by_cases h1 : old.size = 256
  · have e1 : ((old.size : Int) != 256) = false := by rw [h1]; rfl
    have e2 : ((fresh.size : Int) != 256) = true := bne_iff_ne.2 (by omega)
    clear h h1
    go_enter Tryd.func19, Tryd.ntmps19
    go_wp2
    go_ret2
    exact ⟨rfl, rfl⟩
  · have e1 : ((old.size : Int) != 256) = true := bne_iff_ne.2 (by omega)
    clear h h1
    go_enter Tryd.func19, Tryd.ntmps19
    go_wp2
    go_ret2
    exact ⟨rfl, rfl⟩
set_option maxHeartbeats 1000000 in
theorem tearr_range (old fresh : ByteArray) (n : Int) (ho : old.size = 256) (hf : fresh.size = 256) (h : n < 0 ∨ 256 < n) (w : World) :
    Calls Tryd.prog 19 #[.string old, .string fresh, .int .i64 n] w fun e w' => e = .returned (.tuple #[.string ⟨#[]⟩, .int .i64 6]) ∧ w = w' := by
  have e1 : ((old.size : Int) != 256) = false := by rw [ho]; rfl
  have e2 : ((fresh.size : Int) != 256) = false := by rw [hf]; rfl
  clear ho hf
  by_cases h1 : n < 0
  · clear h
    go_enter Tryd.func19, Tryd.ntmps19
    go_wp2
    go_ret2
    exact ⟨rfl, rfl⟩
  · have h2 : 256 < n := by omega
    clear h
    go_enter Tryd.func19, Tryd.ntmps19
    go_wp2
    go_ret2
    exact ⟨rfl, rfl⟩
end Go.Proofs.YtffmekcpkilkoaaDoor
