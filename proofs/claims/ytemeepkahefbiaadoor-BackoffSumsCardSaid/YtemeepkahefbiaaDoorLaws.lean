/-
  Walks over the three statements of layer 20: each returns true.
-/
import Derived.Test.YtemeepkahefbiaaDoorWalks2
import Derived.Test.YtemeepkahefbiaaDoorErr
import Derived.LaidEql
import Derived.Handy
namespace Go.Proofs.YtemeepkahefbiaaDoor
open Go.RowKit

theorem quiet_of_left {P : Program} {f : FuncId} {args : Array Value} {w : World} {n : Nat} {v : Value}
    (h : Calls P f args (w.drewN n) fun e w' => e = .returned v ∧ w.drewN n = w') : Calls P f args (w.drewN n) fun e w'' => e = .returned v ∧ ∃ m, w'' = w.drewN m :=
  h.mono fun _ _ ⟨he, hm⟩ => ⟨he, n, hm.symm⟩
theorem raw_fixed (w : World) : Calls Tryd.prog 10 #[.int .i64 5, .int .i64 40, .int .i64 3] w fun e w' => e = .returned (.int .i64 20) ∧ w = w' := raw_any 5 40 3 (by omega) w
theorem bound_fixed (w : World) : Calls Tryd.prog 16 #[.int .i64 40, .int .i64 2] w fun e w' => e = .returned (.int .i64 121) ∧ w = w' := bound_any 40 2 w
theorem not_good : ¬ Bk.goodPlan 2 1 3 := by unfold Bk.goodPlan; omega

theorem lives_any (a : Addr) (w : World) (hv : w.cell? ⟨0, 0, none⟩ = some (.iface 37 (.pointer (some a)))) :
    Calls Tryd.prog 6 #[] w fun e w' => e = .returned (.bool true) ∧ ∃ n, w' = w.drewN n := by
  obtain ⟨ip, hip, hcomp⟩ := Option.map_eq_some_iff.1 errp_info
  obtain ⟨is, his, hsz⟩ := Option.map_eq_some_iff.1 errs_info
  have heq : ∀ W : World, (binOp .eql 25 (.iface 37 (.pointer (some a))) (.iface 37 (.pointer (some a)))).run Tryd.prog W = .ok (.bool true) W := fun W =>
    run_eql_iface_ptr_same W _ Tryd.underlying25 Tryd.underlying37 hip hcomp his
  go_enter Tryd.func6, Tryd.ntmps6
  go_wp2
  go_quiet ((first
    | (go_at_call 10; exact quiet_of_left (raw_fixed _))
    | (go_at_call 16; exact quiet_of_left (bound_fixed _))
    | (go_at_call 8; exact quiet_of_left (check_bad 2 1 3 not_good _ _ hv))))
  go_wp2
  go_ret
  exact ⟨rfl, _, rfl⟩

theorem below_drewN {B : Nat} {a w : World} (h : Below B a w) (n : Nat) : Below B a (w.drewN n) := ⟨h.os, h.tape, h.output, h.size, h.block⟩

set_option maxHeartbeats 400000 in
theorem sums_any (b c l d : Int) (a : Addr) (w : World) (hv : w.cell? ⟨0, 0, none⟩ = some (.iface 37 (.pointer (some a)))) :
    Calls Tryd.prog 4 #[.int .i64 b, .int .i64 c, .int .i64 l, .int .i64 d] w fun e w' => e = .returned (.bool true) ∧ Below w.heap.size w w' := by
  go_enter Tryd.func4, Tryd.ntmps4
  go_wp2_with (first
    | (go_at_call 6; refine (lives_any a _ hv).mono ?_; rintro e w1 ⟨rfl, n, rfl⟩)
    | (go_at_call 14; refine (longest_any _ _ _ _ _ _ rfl _ (by exact hv)).mono ?_; rintro e w1 ⟨rfl, rfl⟩)
    | (go_at_call 15; refine (longestr_any _ _ _ _).mono ?_; rintro e w1 ⟨rfl, rfl⟩)
    | (go_at_call 16; refine (bound_any _ _ _).mono ?_; rintro e w1 ⟨rfl, rfl⟩)
    | (go_at_call 17; refine (boundr_any _ _ _).mono ?_; rintro e w1 ⟨rfl, rfl⟩))
  go_ret
  exact ⟨rfl, below_drewN (Below.refl _ _) _⟩

set_option maxHeartbeats 400000 in
theorem waits_any (b c n m : Int) (hn : -9223372036854775808 ≤ n ∧ n ≤ 9223372036854775807) (A : Nat → Addr) (w : World) (hE : Errs w.heap.size w A) :
    Calls Tryd.prog 3 #[.int .i64 b, .int .i64 c, .int .i64 n, .int .i64 m] w fun e w' => e = .returned (.bool true) ∧ Below w.heap.size w w' := by
  have hv : w.cell? ⟨0, 0, none⟩ = some (.iface 37 (.pointer (some (A 34)))) := hE.var 34 _ rfl
  have HE := Lib.hid hE
  clear hE
  by_cases hg : Bk.goodPlan b c n
  · have HG := Lib.hid hg
    have HC := Lib.hid (cnum_yes b c n hg)
    clear hg
    go_enter Tryd.func3, Tryd.ntmps3
    go_wp2_with (first
      | (go_at_call 6; refine (lives_any (A 34) _ hv).mono ?_; rintro e w1 ⟨rfl, k, rfl⟩)
      | (go_at_call 8; refine (check_good _ _ _ HG.out _).mono ?_; rintro e w1 ⟨rfl, rfl⟩)
      | (go_at_call 7; refine (num_nil _).mono ?_; rintro e w1 ⟨rfl, rfl⟩)
      | (go_at_call 9; refine (checkr_any _ _ _ _).mono ?_; rintro e w1 ⟨rfl, rfl⟩; rw [HC.out])
      | (go_at_call 10; refine (raw_any _ _ _ hn _).mono ?_; rintro e w1 ⟨rfl, rfl⟩)
      | (go_at_call 11; refine (rawr_any _ _ _ hn _).mono ?_; rintro e w1 ⟨rfl, rfl⟩)
      | (go_at_call 12; refine (wait_any _ _ _ _ hn _).mono ?_; rintro e w1 ⟨rfl, rfl⟩)
      | (go_at_call 13; refine (waitr_any _ _ _ _ hn _).mono ?_; rintro e w1 ⟨rfl, rfl⟩))
    go_ret
    exact ⟨rfl, below_drewN (Below.refl _ _) _⟩
  · have HG := Lib.hid hg
    have HC := Lib.hid (cnum_no b c n hg)
    clear hg
    go_enter Tryd.func3, Tryd.ntmps3
    go_wp2_with (first
      | (go_at_call 6; refine (lives_any (A 34) _ hv).mono ?_; rintro e w1 ⟨rfl, k, rfl⟩)
      | (go_at_call 8; refine (check_bad _ _ _ HG.out _ _ (by exact hv)).mono ?_; rintro e w1 ⟨rfl, rfl⟩)
      | (go_at_call 7; refine (num_of 34 35 (by omega) rfl w.heap.size A _ (by exact HE.out.keep (Nat.le_refl _) fun _ _ => rfl)).mono ?_; rintro e w1 ⟨rfl, hb1⟩)
      | (go_at_call 9; refine (checkr_any _ _ _ _).mono ?_; rintro e w2 ⟨rfl, rfl⟩; rw [HC.out])
      | (go_at_call 10; refine (raw_any _ _ _ hn _).mono ?_; rintro e w2 ⟨rfl, rfl⟩)
      | (go_at_call 11; refine (rawr_any _ _ _ hn _).mono ?_; rintro e w2 ⟨rfl, rfl⟩)
      | (go_at_call 12; refine (wait_any _ _ _ _ hn _).mono ?_; rintro e w2 ⟨rfl, rfl⟩)
      | (go_at_call 13; refine (waitr_any _ _ _ _ hn _).mono ?_; rintro e w2 ⟨rfl, rfl⟩))
    go_ret
    exact ⟨rfl, (below_drewN (Below.refl _ _) k).trans hb1⟩
end Go.Proofs.YtemeepkahefbiaaDoor
