/-
  Walks over the three statements of layer 20: each returns true.
-/
import Derived.Test.YtemeepkahefbiaaDoorWalks2
import Derived.Test.YtemeepkahefbiaaDoorErr
import Derived.LaidEql
import Derived.Handy
namespace Go.Proofs.YtemeepkahefbiaaDoor
open Go.RowKit

theorem quiet_of_left {P : Program} {f : FuncId} {args : Array Value} {w : World} {n : Nat} {v : Value}
    (h : Calls P f args (w.drewN n) fun e w' => e = .returned v ∧ w.drewN n = w') : Calls P f args (w.drewN n) fun e w'' => e = .returned v ∧ ∃ m, w'' = w.drewN m :=
  h.mono fun _ _ ⟨he, hm⟩ => ⟨he, n, hm.symm⟩
theorem raw_fixed (w : World) : Calls Tryd.prog 10 #[.int .i64 5, .int .i64 40, .int .i64 3] w fun e w' => e = .returned (.int .i64 20) ∧ w = w' := raw_any 5 40 3 (by omega) w
theorem bound_fixed (w : World) : Calls Tryd.prog 16 #[.int .i64 40, .int .i64 2] w fun e w' => e = .returned (.int .i64 121) ∧ w = w' := bound_any 40 2 w
theorem not_good : ¬ Bk.goodPlan 2 1 3 := by unfold Bk.goodPlan; omega

theorem lives_any (a : Addr) (w : World) (hv : w.cell? ⟨0, 0, none⟩ = some (.iface 37 (.pointer (some a)))) :
    Calls Tryd.prog 6 #[] w fun e w' => e = .returned (.bool true) ∧ ∃ n, w' = w.drewN n := by
  obtain ⟨ip, hip, hcomp⟩ := Option.map_eq_some_iff.1 errp_info
  obtain ⟨is, his, hsz⟩ := Option.map_eq_some_iff.1 errs_info
  have heq : ∀ W : World, (binOp .eql 25 (.iface 37 (.pointer (some a))) (.iface 37 (.pointer (some a)))).run Tryd.prog W = .ok (.bool true) W := fun W =>
    run_eql_iface_ptr_same W _ Tryd.underlying25 Tryd.underlying37 hip hcomp his
  go_enter Tryd.func6, Tryd.ntmps6
  go_wp2
  go_quiet ((first
    | (go_at_call 10; exact quiet_of_left (raw_fixed _))
    | (go_at_call 16; exact quiet_of_left (bound_fixed _))
    | (go_at_call 8; exact quiet_of_left (check_bad 2 1 3 not_good _ _ hv))))
  go_wp2
  go_ret
  exact ⟨rfl, _, rfl⟩

theorem below_drewN {B : Nat} {a w : World} (h : Below B a w) (n : Nat) : Below B a (w.drewN n) := ⟨h.os, h.tape, h.output, h.size, h.block⟩

set_option maxHeartbeats 400000 in
theorem sums_any (b c l d : Int) (a : Addr) (w : World) (hv : w.cell? ⟨0, 0, none⟩ = some (.iface 37 (.pointer (some a)))) :
    Calls Tryd.prog 4 #[.int .i64 b, .int .i64 c, .int .i64 l, .int .i64 d] w fun e w' => e = .returned (.bool true) ∧ Below w.heap.size w w' := by
  go_enter Tryd.func4, Tryd.ntmps4
  go_wp2_with (first
    | (go_at_call 6; refine (lives_any a _ hv).mono ?_; rintro e w1 ⟨rfl, n, rfl⟩)
    | (go_at_call 14; refine (longest_any _ _ _ _ _ _ rfl _ (by exact hv)).mono ?_; rintro e w1 ⟨rfl, rfl⟩)
    | (go_at_call 15; refine (longestr_any _ _ _ _).mono ?_; rintro e w1 ⟨rfl, rfl⟩)
    | (go_at_call 16; refine (bound_any _ _ _).mono ?_; rintro e w1 ⟨rfl, rfl⟩)
    | (go_at_call 17; refine (boundr_any _ _ _).mono ?_; rintro e w1 ⟨rfl, rfl⟩))
  go_ret
  exact ⟨rfl, below_drewN (Below.refl _ _) _⟩

set_option maxHeartbeats 400000 in
theorem waits_any (b c n m : Int) (hn : -9223372036854775808 ≤ n ∧ n ≤ 9223372036854775807) (A : Nat → Addr) (w : World) (hE : Errs w.heap.size w A) :
    Calls Tryd.prog 3 #[.int .i64 b, .int .i64 c, .int .i64 n, .int .i64 m] w fun e w' => e = .returned (.bool true) ∧ Below w.heap.size w w' := by
  have hv : w.cell? ⟨0, 0, none⟩ = some (.iface 37 (.pointer (some (A 34)))) := hE.var 34 _ rfl
  have HE := Lib.hid hE
  clear hE
  by_cases hg : Bk.goodPlan b c n
  · have HG := Lib.hid hg
    have HC := Lib.hid (cnum_yes b c n hg)
    clear hg
    go_enter Tryd.func3, Tryd.ntmps3
    go_wp2_with (first
      | (go_at_call 6; refine (lives_any (A 34) _ hv).mono ?_; rintro e w1 ⟨rfl, k, rfl⟩)
      | (go_at_call 8; refine (check_good _ _ _ HG.out _).mono ?_; rintro e w1 ⟨rfl, rfl⟩)
      | (go_at_call 7; refine (num_nil _).mono ?_; rintro e w1 ⟨rfl, rfl⟩)
      | (go_at_call 9; refine (checkr_any _ _ _ _).mono ?_; rintro e w1 ⟨rfl, rfl⟩; rw [HC.out])
      | (go_at_call 10; refine (raw_any _ _ _ hn _).mono ?_; rintro e w1 ⟨rfl, rfl⟩)
      | (go_at_call 11; refine (rawr_any _ _ _ hn _).mono ?_; rintro e w1 ⟨rfl, rfl⟩)
      | (go_at_call 12; refine (wait_any _ _ _ _ hn _).mono ?_; rintro e w1 ⟨rfl, rfl⟩)
      | (go_at_call 13; refine (waitr_any _ _ _ _ hn _).mono ?_; rintro e w1 ⟨rfl, rfl⟩))
    go_ret
    exact ⟨rfl, below_drewN (Below.refl _ _) _⟩
  · have HG := Lib.hid hg
    have HC := Lib.hid (cnum_no b c n hg)
    clear hg
    go_enter Tryd.func3, Tryd.ntmps3
    go_wp2_with (first
      | (go_at_call 6; refine (lives_any (A 34) _ hv).mono ?_; rintro e w1 ⟨rfl, k, rfl⟩)
      | (go_at_call 8; refine (check_bad _ _ _ HG.out _ _ (by exact hv)).mono ?_; rintro e w1 ⟨rfl, rfl⟩)
      | (go_at_call 7; refine (num_of 34 35 (by omega) rfl w.heap.size A _ (by exact HE.out.keep (Nat.le_refl _) fun _ _ => rfl)).mono ?_; rintro e w1 ⟨rfl, hb1⟩)
      | (go_at_call 9; refine (checkr_any _ _ _ _).mono ?_; rintro e w2 ⟨rfl, rfl⟩; rw [HC.out])
      | (go_at_call 10; refine (raw_any _ _ _ hn _).mono ?_; rintro e w2 ⟨rfl, rfl⟩)
      | (go_at_call 11; refine (rawr_any _ _ _ hn _).mono ?_; rintro e w2 ⟨rfl, rfl⟩)
      | (go_at_call 12; refine (wait_any _ _ _ _ hn _).mono ?_; rintro e w2 ⟨rfl, rfl⟩)
      | (go_at_call 13; refine (waitr_any _ _ _ _ hn _).mono ?_; rintro e w2 ⟨rfl, rfl⟩))
    go_ret
    exact ⟨rfl, (below_drewN (Below.refl _ _) k).trans hb1⟩

theorem wait_bd (b c m : Int) (k : Nat) (h : 1 ≤ b ∧ b ≤ c ∧ c ≤ 65536) : Bk.rwt b c k - Bk.rwt b c k / 4 ≤ Bk.wait b c (k + 1) m ∧ Bk.wait b c (k + 1) m ≤ Bk.rwt b c k ∧ 1 ≤ Bk.wait b c (k + 1) m := by
  have hr := Bk.rwt_bd b c k h.1 h.2.1
  have hs := Bk.spread_bd (Bk.rwt b c k) (k + 1) m (by omega)
  unfold Bk.wait
  rw [raw_plan b c k h, if_neg (by omega)]
  omega
/-- The raw wait ahead of attempt k + 1. -/
def lastW (b c : Int) : Nat → Int
  | 0 => 0
  | k + 1 => Bk.rwt b c k
theorem lastW_succ (b c : Int) (k : Nat) : lastW b c (k + 1) = Bk.rwt b c k := rfl
theorem lastW_le (b c : Int) (k : Nat) (h : 1 ≤ b ∧ b ≤ c ∧ c ≤ 65536) : 0 ≤ lastW b c k ∧ lastW b c k ≤ Bk.rwt b c k ∧ lastW b c k ≤ 65536 := by
  cases k with
  | zero => have := Bk.rwt_bd b c 0 h.1 h.2.1; simp only [lastW]; omega
  | succ k =>
    have h1 := Bk.rwt_bd b c k h.1 h.2.1
    have h2 := Bk.rwt_succ b c k h.1 h.2.1
    rw [lastW_succ]
    omega

set_option maxRecDepth 100000 in
set_option maxHeartbeats 2000000 in
theorem bounds_any (b c l m : Int) (a : Addr) (w : World) (hv : w.cell? ⟨0, 0, none⟩ = some (.iface 37 (.pointer (some a)))) :
    Calls Tryd.prog 5 #[.int .i64 b, .int .i64 c, .int .i64 l, .int .i64 m] w fun e w' => e = .returned (.bool true) ∧ Below w.heap.size w w' := by
  have hnn : ∀ W : World, (binOp .neq 25 .nilIface .nilIface).run Tryd.prog W = .ok (.bool false) W := fun W => by kernel_rfl
  by_cases hg : Bk.goodPlan b c l
  · have HG := Lib.hid hg
    have HF := Lib.hid (longest_yes b c l hg)
    have H0 := Lib.hid (Bk.raw_no b c 0 (by omega))
    obtain ⟨h1, h2, h3, h4, h5⟩ := hg
    have hp : 0 ≤ l * c ∧ l * c ≤ 1048576 := ⟨Int.mul_nonneg (by omega) (by omega), by
      have := Int.mul_le_mul (a := l) (b := c) (c := 16) (d := 65536) (by omega) h3 (by omega) (by omega)
      omega⟩
    obtain ⟨p1, p2⟩ := hp
    go_enter Tryd.func5, Tryd.ntmps5
    go_wp2_with (first
      | (go_at_call 6; refine (lives_any a _ (by exact hv)).mono ?_; rintro e w1 ⟨rfl, nq, rfl⟩)
      | (go_at_call 8; refine (check_good _ _ _ HG.out _).mono ?_; rintro e w1 ⟨rfl, rfl⟩))
    go_loop [10, 11, 12, 13] (fun s r la i => ∃ (k : Nat) (z : Int), (k : Int) ≤ l ∧ i = .int .i64 (k + 1) ∧ s = .int .i64 z ∧ 0 ≤ z ∧ z ≤ Bk.sums b c k ∧ r = .int .i64 (Bk.sums b c k) ∧ la = .int .i64 (lastW b c k)) (fun _ _ _ i => (l + 1 - intOf i).toNat)
    case atStart => exact ⟨0, 0, by omega, rfl, rfl, by omega, by simp [Bk.sums], rfl, rfl⟩
    case round =>
      obtain ⟨k, z, hk, rfl, rfl, hz0, hz1, rfl, rfl⟩ := hrel
      have hs := sums_small b c k ⟨h1, h2, h3⟩ (by omega)
      by_cases hlt : (k : Int) < l
      · have hr := Bk.rwt_bd b c k h1 h2
        have hw := wait_bd b c m k ⟨h1, h2, h3⟩
        have hl := lastW_le b c k ⟨h1, h2, h3⟩
        have hss : Bk.sums b c (k + 1) = Bk.sums b c k + Bk.rwt b c k := rfl
        have HSS := Lib.hid hss
        clear hss
        have hlast : k = 0 ∨ (1 ≤ k ∧ 2 * lastW b c k ≤ c ∧ Bk.rwt b c k ≤ 2 * lastW b c k ∧ 2 * lastW b c k ≤ Bk.rwt b c k) ∨ (1 ≤ k ∧ c < 2 * lastW b c k ∧ Bk.rwt b c k ≤ c ∧ c ≤ Bk.rwt b c k) := by
          cases k with
          | zero => exact .inl rfl
          | succ k =>
            have h2' := Bk.rwt_succ b c k h1 h2
            rw [lastW_succ]
            by_cases hh : 2 * Bk.rwt b c k ≤ c
            · exact .inr (.inl ⟨by omega, hh, by omega, by omega⟩)
            · exact .inr (.inr ⟨by omega, by omega, by omega, by omega⟩)
        rcases hlast with hk0 | ⟨hk1, e1, e2, e3⟩ | ⟨hk1, e1, e2, e3⟩
        · subst hk0
          have hr0 := Bk.rwt_zero b c h2
          have hr1 : Bk.rwt b c 0 ≤ b ∧ b ≤ Bk.rwt b c 0 := by omega
          clear hr0
          have R1 : Hid (Bk.raw b c 1 = Bk.rwt b c 0) := Lib.hid (raw_plan b c 0 ⟨h1, h2, h3⟩)
          have hw0 : Bk.rwt b c 0 - Bk.rwt b c 0 / 4 ≤ Bk.wait b c 1 m ∧ Bk.wait b c 1 m ≤ Bk.rwt b c 0 ∧ 1 ≤ Bk.wait b c 1 m := hw
          clear hw
          go_wp2_with (first
            | (go_at_call 10; refine (raw_any _ _ _ (by omega) _).mono ?_; rintro e w1 ⟨rfl, rfl⟩; rw [R1.out])
            | (go_at_call 12; refine (wait_any _ _ _ _ (by omega) _).mono ?_; rintro e w1 ⟨rfl, rfl⟩))
          go_round
          case rel => exact ⟨0 + 1, _, by omega, by go_num, rfl, by omega, by rw [HSS.out]; omega, by first | (rw [HSS.out]; done) | (rw [HSS.out]; simp [Bk.sums]; omega), by first | rfl | (rw [lastW_succ]; congr 1; omega)⟩
          case measure => simp [intOf]; omega
        all_goals
          go_wp2_with (first
            | (go_at_call 10; refine (raw_any _ _ _ (by omega) _).mono ?_; rintro e w1 ⟨rfl, rfl⟩; rw [raw_plan b c _ ⟨h1, h2, h3⟩])
            | (go_at_call 12; refine (wait_any _ _ _ _ (by omega) _).mono ?_; rintro e w1 ⟨rfl, rfl⟩))
          go_round
          case rel => exact ⟨k + 1, _, by omega, by go_num, rfl, by omega, by rw [HSS.out]; omega, by rw [HSS.out], rfl⟩
          case measure => simp [intOf]; omega
      · obtain rfl : l = k := by omega
        have hsb := Bk.sums_bd b c h1 h2 k
        have HF2 : Hid (Bk.longest b c (k : Int) = Bk.sums b c k) := by have := HF.out; simpa using Lib.hid this
        go_wp2_with (first
          | (go_at_call 14; refine (longest_any _ _ _ _ _ _ rfl _ (by exact hv)).mono ?_; rintro e w1 ⟨rfl, rfl⟩; rw [HF2.out])
          | (go_at_call 10; refine (raw_any _ _ _ (by omega) _).mono ?_; rintro e w1 ⟨rfl, rfl⟩; rw [H0.out]))
        go_ret
        exact ⟨rfl, below_drewN (Below.refl _ _) _⟩
  · have HG := Lib.hid hg
    have HF := Lib.hid (longest_no b c l hg)
    clear hg
    go_enter Tryd.func5, Tryd.ntmps5
    go_wp2_with (first
      | (go_at_call 6; refine (lives_any a _ (by exact hv)).mono ?_; rintro e w1 ⟨rfl, nq, rfl⟩)
      | (go_at_call 8; refine (check_bad _ _ _ HG.out _ _ (by exact hv)).mono ?_; rintro e w1 ⟨rfl, rfl⟩)
      | (go_at_call 14; refine (longest_any _ _ _ _ _ _ rfl _ (by exact hv)).mono ?_; rintro e w1 ⟨rfl, rfl⟩; rw [HF.out]))
    go_ret
    exact ⟨rfl, below_drewN (Below.refl _ _) _⟩
end Go.Proofs.YtemeepkahefbiaaDoor
