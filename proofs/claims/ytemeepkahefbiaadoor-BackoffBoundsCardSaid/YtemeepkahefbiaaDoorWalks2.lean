/-
  Walks over the package backoff and its reference, more: waits and their sums.
-/
import Derived.Test.YtemeepkahefbiaaDoorWalks
import Derived.Laws.BitsAllLaws
import Derived.BigQuiet
import Derived.Deep.QuietTactic
import Derived.Outline
namespace Go.Proofs.YtemeepkahefbiaaDoor
open Go.RowKit

theorem mix_eq (n m : Int) : (m % 4294967296 * 2654435761 + n % 4294967296 * 2246822519) % 4294967296 = ((Bk.mix n m : Nat) : Int) := (Bk.mix_val n m).symm
theorem spread_of (r n m : Int) (h : 0 ≤ r) : (((Bk.mix n m ^^^ Bk.mix n m / 32768 : Nat) : Int)).tmod (r / 4 + 1) = Bk.spread r n m := by
  rw [Int.tmod_eq_emod_of_nonneg (by omega)]
  unfold Bk.spread
  rw [Int.natCast_emod]
  congr 1
  omega
theorem prog_spread (r n m : Int) (h0 : 0 ≤ r) (h1 : r ≤ 65536) :
    wrap64 (r - wrap64 ((bits .xor .u32 ((m % 4294967296 * 2654435761 + n % 4294967296 * 2246822519) % 4294967296) ((m % 4294967296 * 2654435761 + n % 4294967296 * 2246822519) % 4294967296 / 32768)).tmod (r / 4 + 1))) = r - Bk.spread r n m := by
  rw [mix_eq]
  have hm := Bk.mix_lt n m
  have e : ((Bk.mix n m : Nat) : Int) / 32768 = ((Bk.mix n m / 32768 : Nat) : Int) := by omega
  rw [e, u32_xor_nat _ _ hm (by omega), spread_of r n m h0]
  have hs := Bk.spread_bd r n m h0
  rw [IntWalk.wrap64_in (Bk.spread r n m) ⟨by omega, by omega⟩, IntWalk.wrap64_in _ ⟨by omega, by omega⟩]
theorem ref_spread (r n m : Int) (h0 : 0 ≤ r) (h1 : r ≤ 65536) :
    wrap64 ((bits .xor .u64 ((IntKind.u64.wrap (m % 4294967296 * 2654435761 + n % 4294967296 * 2246822519)).tmod 4294967296) (IntKind.u64.wrap (((IntKind.u64.wrap (m % 4294967296 * 2654435761 + n % 4294967296 * 2246822519)).tmod 4294967296).tdiv 32768))).tmod (r / 4 + 1)) = Bk.spread r n m := by
  have hm := Bk.mix_lt n m
  have e1 : (IntKind.u64.wrap (m % 4294967296 * 2654435761 + n % 4294967296 * 2246822519)).tmod 4294967296 = ((Bk.mix n m : Nat) : Int) := by
    rw [← mix_eq, IntKind.wrap_u64, Int.tmod_eq_emod_of_nonneg (by omega)]
    omega
  have e2 : IntKind.u64.wrap ((((Bk.mix n m : Nat) : Int)).tdiv 32768) = ((Bk.mix n m / 32768 : Nat) : Int) := by
    rw [Int.tdiv_eq_ediv_of_nonneg (by omega), IntKind.wrap_u64]
    omega
  rw [e1, e2, u64_xor_nat _ _ (by omega) (by omega), spread_of r n m h0]
  have hs := Bk.spread_bd r n m h0
  rw [IntWalk.wrap64_in (Bk.spread r n m) ⟨by omega, by omega⟩]

set_option maxHeartbeats 400000 in
theorem wait_any (b c n m : Int) (hn : -9223372036854775808 ≤ n ∧ n ≤ 9223372036854775807) (w : World) :
    Calls Tryd.prog 12 #[.int .i64 b, .int .i64 c, .int .i64 n, .int .i64 m] w fun e w' => e = .returned (.int .i64 (Bk.wait b c n m)) ∧ w = w' := by
  have hbd := Bk.raw_bd b c n
  go_enter Tryd.func12, Tryd.ntmps12
  go_wp2_with (go_at_call 10; refine (raw_any _ _ _ hn _).mono ?_; rintro e w' ⟨rfl, rfl⟩)
  · go_ret
    have h0 : Bk.raw b c n = 0 := by have : (Bk.raw b c n == 0) = true := by assumption
                                     simpa using this
    exact ⟨ret_int (by simp [Bk.wait, h0]), rfl⟩
  · go_ret
    have h0 : ¬ Bk.raw b c n = 0 := by have : (Bk.raw b c n == 0) = false := by assumption
                                       simpa using this
    exact ⟨ret_int (by rw [prog_spread _ _ _ hbd.1 hbd.2]; simp [Bk.wait, h0]), rfl⟩
theorem spread_any (r n m : Int) (hr : 0 ≤ r ∧ r ≤ 65536) (w : World) :
    Calls Tryd.prog 20 #[.int .i64 r, .int .i64 n, .int .i64 m] w fun e w' => e = .returned (.int .i64 (Bk.spread r n m)) ∧ w = w' := by
  go_enter Tryd.func20, Tryd.ntmps20
  go_wp2
  go_ret
  exact ⟨ret_int (ref_spread _ _ _ hr.1 hr.2), rfl⟩
set_option maxHeartbeats 400000 in
theorem waitr_any (b c n m : Int) (hn : -9223372036854775808 ≤ n ∧ n ≤ 9223372036854775807) (w : World) :
    Calls Tryd.prog 13 #[.int .i64 b, .int .i64 c, .int .i64 n, .int .i64 m] w fun e w' => e = .returned (.int .i64 (Bk.wait b c n m)) ∧ w = w' := by
  have hbd := Bk.raw_bd b c n
  have hs := Bk.spread_bd (Bk.raw b c n) n m hbd.1
  go_enter Tryd.func13, Tryd.ntmps13
  go_wp2_with (first | (go_at_call 11; refine (rawr_any _ _ _ hn _).mono ?_; rintro e w' ⟨rfl, rfl⟩) | (go_at_call 20; refine (spread_any _ _ _ hbd _).mono ?_; rintro e w' ⟨rfl, rfl⟩))
  · go_ret
    have h0 : Bk.raw b c n = 0 := by have : (Bk.raw b c n == 0) = true := by assumption
                                     simpa using this
    exact ⟨ret_int (by simp [Bk.wait, h0]), rfl⟩
  · go_ret
    have h0 : ¬ Bk.raw b c n = 0 := by have : (Bk.raw b c n == 0) = false := by assumption
                                       simpa using this
    exact ⟨ret_int (by simp [Bk.wait, h0]), rfl⟩

/- Longest. -/
theorem raw_plan (b c : Int) (k : Nat) (h : 1 ≤ b ∧ b ≤ c ∧ c ≤ 65536) : Bk.raw b c (k + 1) = Bk.rwt b c k := by
  rw [Bk.raw_yes b c _ ⟨by omega, h⟩]
  congr 1
  omega
theorem longest_yes (b c l : Int) (h : Bk.goodPlan b c l) : Bk.longest b c l = Bk.sums b c l.toNat := by simp only [Bk.longest]; rw [if_pos h]
theorem longest_no (b c l : Int) (h : ¬ Bk.goodPlan b c l) : Bk.longest b c l = 0 := by simp only [Bk.longest]; rw [if_neg h]
theorem sums_small (b c : Int) (k : Nat) (h : 1 ≤ b ∧ b ≤ c ∧ c ≤ 65536) (hk : k ≤ 16) : 0 ≤ Bk.sums b c k ∧ Bk.sums b c k ≤ 1048576 := by
  have h1 := Bk.sums_bd b c h.1 h.2.1 k
  have h2 : (k : Int) * c ≤ 16 * 65536 := Int.mul_le_mul (by omega) h.2.2 (by omega) (by omega)
  omega

set_option maxHeartbeats 400000 in
theorem longest_any (b c l : Int) (v : Value) (t : TypeId) (x : Value) (hvi : v = .iface t x) (w : World) (hv : w.cell? ⟨0, 0, none⟩ = some v) :
    Calls Tryd.prog 14 #[.int .i64 b, .int .i64 c, .int .i64 l] w fun e w' => e = .returned (.int .i64 (Bk.longest b c l)) ∧ w = w' := by
  subst hvi
  have hnn : ∀ W : World, (binOp .neq 25 .nilIface .nilIface).run Tryd.prog W = .ok (.bool false) W := fun W => by kernel_rfl
  by_cases h : Bk.goodPlan b c l
  · have HF := Lib.hid (longest_yes b c l h)
    have HG := Lib.hid h
    obtain ⟨h1, h2, h3, h4, h5⟩ := h
    go_enter Tryd.func14, Tryd.ntmps14
    go_wp2_with (go_at_call 8; refine (check_good _ _ _ HG.out _).mono ?_; rintro e w' ⟨rfl, rfl⟩)
    go_loop [7, 15] (fun s i => ∃ k : Nat, (k : Int) ≤ l ∧ i = .int .i64 k ∧ s = .int .i64 (Bk.sums b c k)) (fun _ i => (l - intOf i).toNat)
    case atStart => exact ⟨0, by omega, rfl, rfl⟩
    case round =>
      obtain ⟨k, hk, rfl, rfl⟩ := hrel
      have hs := sums_small b c k ⟨h1, h2, h3⟩ (by omega)
      have hr := Bk.rwt_bd b c k h1 h2
      by_cases hlt : (k : Int) < l
      · go_wp2_with (go_at_call 10; refine (raw_any _ _ _ (by omega) _).mono ?_; rintro e w' ⟨rfl, rfl⟩; rw [raw_plan b c k ⟨h1, h2, h3⟩])
        go_round
        case rel => exact ⟨k + 1, by omega, by go_num, rfl⟩
        case measure => simp [intOf]; omega
      · obtain rfl : l = k := by omega
        go_wp2
        go_ret
        exact ⟨ret_int (by rw [HF.out]; simp), rfl⟩
  · have HF := Lib.hid (longest_no b c l h)
    have HG := Lib.hid h
    clear h
    go_enter Tryd.func14, Tryd.ntmps14
    go_wp2_with (go_at_call 8; refine (check_bad _ _ _ HG.out _ _ hv).mono ?_; rintro e w' ⟨rfl, rfl⟩)
    go_ret
    exact ⟨ret_int HF.out.symm, rfl⟩
set_option maxHeartbeats 400000 in
theorem longestr_any (b c l : Int) (w : World) :
    Calls Tryd.prog 15 #[.int .i64 b, .int .i64 c, .int .i64 l] w fun e w' => e = .returned (.int .i64 (Bk.longest b c l)) ∧ w = w' := by
  by_cases h : Bk.goodPlan b c l
  · have HF := Lib.hid (longest_yes b c l h)
    have HC := Lib.hid (cnum_yes b c l h)
    obtain ⟨h1, h2, h3, h4, h5⟩ := h
    go_enter Tryd.func15, Tryd.ntmps15
    go_wp2_with (go_at_call 9; refine (checkr_any _ _ _ _).mono ?_; rintro e w' ⟨rfl, rfl⟩; rw [HC.out])
    go_loop [8, 9] (fun s i => ∃ k : Nat, (k : Int) ≤ l ∧ i = .int .i64 (k + 1) ∧ s = .int .i64 (Bk.sums b c k)) (fun _ i => (l + 1 - intOf i).toNat)
    case atStart => exact ⟨0, by omega, rfl, rfl⟩
    case round =>
      obtain ⟨k, hk, rfl, rfl⟩ := hrel
      have hs := sums_small b c k ⟨h1, h2, h3⟩ (by omega)
      have hr := Bk.rwt_bd b c k h1 h2
      by_cases hlt : (k : Int) < l
      · go_wp2_with (go_at_call 11; refine (rawr_any _ _ _ (by omega) _).mono ?_; rintro e w' ⟨rfl, rfl⟩; rw [raw_plan b c k ⟨h1, h2, h3⟩])
        go_round
        case rel => exact ⟨k + 1, by omega, by go_num, rfl⟩
        case measure => simp [intOf]; omega
      · obtain rfl : l = k := by omega
        go_wp2
        go_ret
        exact ⟨ret_int (by rw [HF.out]; simp), rfl⟩
  · have HF := Lib.hid (longest_no b c l h)
    have HC := Lib.hid (cnum_no b c l h)
    clear h
    go_enter Tryd.func15, Tryd.ntmps15
    go_wp2_with (go_at_call 9; refine (checkr_any _ _ _ _).mono ?_; rintro e w' ⟨rfl, rfl⟩; rw [HC.out])
    go_ret
    exact ⟨ret_int HF.out.symm, rfl⟩
end Go.Proofs.YtemeepkahefbiaaDoor
