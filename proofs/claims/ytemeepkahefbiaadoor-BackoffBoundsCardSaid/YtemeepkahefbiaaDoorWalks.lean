/-
  Walks over the package backoff and its reference: each function comes to the plain number of Bk.
-/
import Derived.Test.YtemeepkahefbiaaDoorProg
import Derived.Test.YtemeepkahefbiaaDoorPlain
import Derived.WalkKit
import Derived.Below
import Derived.Lib.Hide
import Derived.IntWalk
import Derived.KernelRfl
namespace Go.Proofs.YtemeepkahefbiaaDoor
open Go.RowKit

theorem ret_int {k : IntKind} {a b : Int} (h : a = b) : Ending.returned (.int k a) = .returned (.int k b) := by rw [h]
theorem ret_bool {a b : Bool} (h : a = b) : Ending.returned (.bool a) = .returned (.bool b) := by rw [h]

def planB (b c : Int) : Bool := decide (1 ≤ b ∧ b ≤ c ∧ c ≤ 65536)
theorem plan_any (b c : Int) (w : World) : Calls Tryd.prog 19 #[.int .i64 b, .int .i64 c] w fun e w' => e = .returned (.bool (planB b c)) ∧ w = w' := by
  by_cases h1 : 1 ≤ b
  · by_cases h2 : b ≤ c
    · by_cases h3 : c ≤ 65536
      · go_enter Tryd.func19, Tryd.ntmps19
        go_wp2
        go_ret
        exact ⟨ret_bool (by simp [planB]; omega), rfl⟩
      · go_enter Tryd.func19, Tryd.ntmps19
        go_wp2
        go_ret
        exact ⟨ret_bool (by simp [planB]; omega), rfl⟩
    · go_enter Tryd.func19, Tryd.ntmps19
      go_wp2
      go_ret
      exact ⟨ret_bool (by simp [planB]; omega), rfl⟩
  · go_enter Tryd.func19, Tryd.ntmps19
    go_wp2
    go_ret
    exact ⟨ret_bool (by simp [planB]; omega), rfl⟩
theorem plan_yes (b c : Int) (h : 1 ≤ b ∧ b ≤ c ∧ c ≤ 65536) (w : World) : Calls Tryd.prog 19 #[.int .i64 b, .int .i64 c] w fun e w' => e = .returned (.bool true) ∧ w = w' := by
  have := plan_any b c w
  rwa [show planB b c = true by simp [planB]; omega] at this
theorem plan_no (b c : Int) (h : ¬ (1 ≤ b ∧ b ≤ c ∧ c ≤ 65536)) (w : World) : Calls Tryd.prog 19 #[.int .i64 b, .int .i64 c] w fun e w' => e = .returned (.bool false) ∧ w = w' := by
  have := plan_any b c w
  rwa [show planB b c = false by simp [planB]; omega] at this

set_option maxHeartbeats 400000 in
theorem raw_any (b c n : Int) (hn : -9223372036854775808 ≤ n ∧ n ≤ 9223372036854775807) (w : World) :
    Calls Tryd.prog 10 #[.int .i64 b, .int .i64 c, .int .i64 n] w fun e w' => e = .returned (.int .i64 (Bk.raw b c n)) ∧ w = w' := by
  by_cases h1 : 1 ≤ n
  · by_cases h2 : 1 ≤ b ∧ b ≤ c ∧ c ≤ 65536
    · have hfin : Bk.raw b c n = min (Bk.dbl (n - 1).toNat b c) c := Bk.raw_yes b c n ⟨h1, h2⟩
      have H := Lib.hid hfin
      clear hfin
      obtain ⟨hb, hbc, hc⟩ := h2
      go_enter Tryd.func10, Tryd.ntmps10
      go_wp2_with (go_at_call 19; refine (plan_yes _ _ (by omega) _).mono ?_; rintro e w' ⟨rfl, rfl⟩)
      go_loop [2, 7] (fun m v => ∃ (k : Nat) (r : Int), m = .int .i64 (k + 1) ∧ (k : Int) + 1 ≤ n ∧ v = .int .i64 r ∧ 1 ≤ r ∧ r ≤ 131072 ∧ Hid (Bk.dbl k r c = Bk.dbl (n - 1).toNat b c)) (fun m _ => (intOf m).toNat)
      case atStart => exact ⟨(n - 1).toNat, b, by congr 1; omega, by omega, rfl, by omega, by omega, Lib.hid rfl⟩
      case round =>
        obtain ⟨k, r, rfl, hk, rfl, hr1, hr2, HD⟩ := hrel
        by_cases hk0 : 1 ≤ k
        · by_cases hlt : r < c
          · go_wp2
            go_round
            case rel =>
              obtain ⟨k, rfl⟩ : ∃ k', k = k' + 1 := ⟨k - 1, by omega⟩
              refine ⟨k, 2 * r, by go_num, by omega, by go_num, by omega, by omega, ?_⟩
              have := HD.out
              rw [Bk.dbl_step k r c hlt] at this
              exact Lib.hid this
            case measure => simp [intOf]
          · go_wp2
            all_goals
              go_ret
              have := HD.out
              rw [Bk.dbl_stop k r c (by omega)] at this
              exact ⟨ret_int (by rw [H.out, ← this]; omega), rfl⟩
        · obtain rfl : k = 0 := by omega
          go_wp2
          all_goals
            go_ret
            have := HD.out
            rw [Bk.dbl_zero] at this
            exact ⟨ret_int (by rw [H.out, ← this]; omega), rfl⟩
    · go_enter Tryd.func10, Tryd.ntmps10
      go_wp2_with (go_at_call 19; refine (plan_no _ _ h2 _).mono ?_; rintro e w' ⟨rfl, rfl⟩)
      go_ret
      exact ⟨ret_int (Bk.raw_no b c n (by omega)).symm, rfl⟩
  · go_enter Tryd.func10, Tryd.ntmps10
    go_wp2
    go_ret
    exact ⟨ret_int (Bk.raw_no b c n (by omega)).symm, rfl⟩

set_option maxHeartbeats 400000 in
theorem rawr_any (b c n : Int) (hn : -9223372036854775808 ≤ n ∧ n ≤ 9223372036854775807) (w : World) :
    Calls Tryd.prog 11 #[.int .i64 b, .int .i64 c, .int .i64 n] w fun e w' => e = .returned (.int .i64 (Bk.raw b c n)) ∧ w = w' := by
  by_cases h1 : 1 ≤ n
  · by_cases h2 : 1 ≤ b
    · by_cases h3 : b ≤ c
      · by_cases h4 : c ≤ 65536
        · have hfin : Bk.raw b c n = min (Bk.dbl (n - 1).toNat b c) c := Bk.raw_yes b c n ⟨h1, h2, h3, h4⟩
          have H := Lib.hid hfin
          clear hfin
          go_enter Tryd.func11, Tryd.ntmps11
          go_wp2
          go_loop [7, 8] (fun v m => ∃ (k : Nat) (r : Int), m = .int .i64 (n - k) ∧ (k : Int) + 1 ≤ n ∧ v = .int .i64 r ∧ 1 ≤ r ∧ r ≤ 131072 ∧ Hid (Bk.dbl k r c = Bk.dbl (n - 1).toNat b c)) (fun _ m => (n - intOf m).toNat)
          case atStart => exact ⟨(n - 1).toNat, b, by congr 1; omega, by omega, rfl, by omega, by omega, Lib.hid rfl⟩
          case round =>
            obtain ⟨k, r, rfl, hk, rfl, hr1, hr2, HD⟩ := hrel
            by_cases hk0 : 1 ≤ k
            · by_cases hlt : r < c
              · go_wp2
                go_round
                case rel =>
                  obtain ⟨k, rfl⟩ : ∃ k', k = k' + 1 := ⟨k - 1, by omega⟩
                  refine ⟨k, 2 * r, by congr 1; omega, by omega, by go_num, by omega, by omega, ?_⟩
                  have := HD.out
                  rw [Bk.dbl_step k r c hlt] at this
                  exact Lib.hid this
                case measure => simp [intOf]; omega
              · go_wp2
                all_goals
                  go_ret
                  have := HD.out
                  rw [Bk.dbl_stop k r c (by omega)] at this
                  exact ⟨ret_int (by rw [H.out, ← this]; omega), rfl⟩
            · obtain rfl : k = 0 := by omega
              go_wp2
              all_goals
                go_ret
                have := HD.out
                rw [Bk.dbl_zero] at this
                exact ⟨ret_int (by rw [H.out, ← this]; omega), rfl⟩
        · go_enter Tryd.func11, Tryd.ntmps11
          go_wp2
          go_ret
          exact ⟨ret_int (Bk.raw_no b c n (by omega)).symm, rfl⟩
      · go_enter Tryd.func11, Tryd.ntmps11
        go_wp2
        go_ret
        exact ⟨ret_int (Bk.raw_no b c n (by omega)).symm, rfl⟩
    · go_enter Tryd.func11, Tryd.ntmps11
      go_wp2
      go_ret
      exact ⟨ret_int (Bk.raw_no b c n (by omega)).symm, rfl⟩
  · go_enter Tryd.func11, Tryd.ntmps11
    go_wp2
    go_ret
    exact ⟨ret_int (Bk.raw_no b c n (by omega)).symm, rfl⟩

/- Bound. -/
theorem bound_any (c d : Int) (w : World) : Calls Tryd.prog 16 #[.int .i64 c, .int .i64 d] w fun e w' => e = .returned (.int .i64 (Bk.bound c d)) ∧ w = w' := by
  by_cases h1 : 1 ≤ c
  · by_cases h2 : c ≤ 65536
    · by_cases h3 : 0 ≤ d
      · by_cases h4 : d ≤ 16
        · have hp : 0 ≤ (d + 1) * c ∧ (d + 1) * c ≤ 1114112 := ⟨Int.mul_nonneg (by omega) (by omega), by
            have := Int.mul_le_mul (a := d + 1) (b := c) (c := 17) (d := 65536) (by omega) h2 (by omega) (by omega)
            omega⟩
          obtain ⟨p1, p2⟩ := hp
          go_enter Tryd.func16, Tryd.ntmps16
          go_wp2
          go_ret
          exact ⟨ret_int (by simp only [Bk.bound]; rw [if_pos (by omega)]), rfl⟩
        · go_enter Tryd.func16, Tryd.ntmps16
          go_wp2
          go_ret
          exact ⟨ret_int (by simp only [Bk.bound]; rw [if_neg (by omega)]), rfl⟩
      · go_enter Tryd.func16, Tryd.ntmps16
        go_wp2
        go_ret
        exact ⟨ret_int (by simp only [Bk.bound]; rw [if_neg (by omega)]), rfl⟩
    · go_enter Tryd.func16, Tryd.ntmps16
      go_wp2
      go_ret
      exact ⟨ret_int (by simp only [Bk.bound]; rw [if_neg (by omega)]), rfl⟩
  · go_enter Tryd.func16, Tryd.ntmps16
    go_wp2
    go_ret
    exact ⟨ret_int (by simp only [Bk.bound]; rw [if_neg (by omega)]), rfl⟩
theorem boundr_any (c d : Int) (w : World) : Calls Tryd.prog 17 #[.int .i64 c, .int .i64 d] w fun e w' => e = .returned (.int .i64 (Bk.bound c d)) ∧ w = w' := by
  by_cases h1 : 1 ≤ c
  · by_cases h2 : c ≤ 65536
    · by_cases h3 : 0 ≤ d
      · by_cases h4 : d ≤ 16
        · have hp : 0 ≤ (d + 1) * c ∧ (d + 1) * c ≤ 1114112 := ⟨Int.mul_nonneg (by omega) (by omega), by
            have := Int.mul_le_mul (a := d + 1) (b := c) (c := 17) (d := 65536) (by omega) h2 (by omega) (by omega)
            omega⟩
          obtain ⟨p1, p2⟩ := hp
          go_enter Tryd.func17, Tryd.ntmps17
          go_wp2
          go_ret
          exact ⟨ret_int (by simp only [Bk.bound]; rw [if_pos (by omega)]), rfl⟩
        · go_enter Tryd.func17, Tryd.ntmps17
          go_wp2
          go_ret
          exact ⟨ret_int (by simp only [Bk.bound]; rw [if_neg (by omega)]), rfl⟩
      · go_enter Tryd.func17, Tryd.ntmps17
        go_wp2
        go_ret
        exact ⟨ret_int (by simp only [Bk.bound]; rw [if_neg (by omega)]), rfl⟩
    · go_enter Tryd.func17, Tryd.ntmps17
      go_wp2
      go_ret
      exact ⟨ret_int (by simp only [Bk.bound]; rw [if_neg (by omega)]), rfl⟩
  · go_enter Tryd.func17, Tryd.ntmps17
    go_wp2
    go_ret
    exact ⟨ret_int (by simp only [Bk.bound]; rw [if_neg (by omega)]), rfl⟩

/- Check. -/
theorem check_good (b c l : Int) (h : Bk.goodPlan b c l) (w : World) : Calls Tryd.prog 8 #[.int .i64 b, .int .i64 c, .int .i64 l] w fun e w' => e = .returned .nilIface ∧ w = w' := by
  obtain ⟨h1, h2, h3, h4, h5⟩ := h
  go_enter Tryd.func8, Tryd.ntmps8
  go_wp2_with (go_at_call 19; refine (plan_yes _ _ (by omega) _).mono ?_; rintro e w' ⟨rfl, rfl⟩)
  go_ret
  exact ⟨rfl, rfl⟩
theorem check_bad (b c l : Int) (h : ¬ Bk.goodPlan b c l) (v : Value) (w : World) (hv : w.cell? ⟨0, 0, none⟩ = some v) :
    Calls Tryd.prog 8 #[.int .i64 b, .int .i64 c, .int .i64 l] w fun e w' => e = .returned v ∧ w = w' := by
  by_cases hp : 1 ≤ b ∧ b ≤ c ∧ c ≤ 65536
  · by_cases h4 : 1 ≤ l
    · have h5 : ¬ l ≤ 16 := fun h5 => h ⟨hp.1, hp.2.1, hp.2.2, h4, h5⟩
      clear h
      go_enter Tryd.func8, Tryd.ntmps8
      go_wp2_with (go_at_call 19; refine (plan_yes _ _ (by omega) _).mono ?_; rintro e w' ⟨rfl, rfl⟩)
      go_ret
      exact ⟨rfl, rfl⟩
    · clear h
      go_enter Tryd.func8, Tryd.ntmps8
      go_wp2_with (go_at_call 19; refine (plan_yes _ _ (by omega) _).mono ?_; rintro e w' ⟨rfl, rfl⟩)
      go_ret
      exact ⟨rfl, rfl⟩
  · clear h
    have HP := Lib.hid hp
    clear hp
    go_enter Tryd.func8, Tryd.ntmps8
    go_wp2_with (go_at_call 19; refine (plan_no _ _ HP.out _).mono ?_; rintro e w' ⟨rfl, rfl⟩)
    go_ret
    exact ⟨rfl, rfl⟩
def cnum (b c l : Int) : Int := if Bk.goodPlan b c l then 0 else 35
theorem cnum_yes (b c l : Int) (h : Bk.goodPlan b c l) : cnum b c l = 0 := by simp only [cnum]; rw [if_pos h]
theorem cnum_no (b c l : Int) (h : ¬ Bk.goodPlan b c l) : cnum b c l = 35 := by simp only [cnum]; rw [if_neg h]
theorem checkr_any (b c l : Int) (w : World) : Calls Tryd.prog 9 #[.int .i64 b, .int .i64 c, .int .i64 l] w fun e w' => e = .returned (.int .i64 (cnum b c l)) ∧ w = w' := by
  have fin0 : (1 ≤ b ∧ b ≤ c ∧ c ≤ 65536 ∧ 1 ≤ l ∧ l ≤ 16) → (0 : Int) = cnum b c l := fun h => (cnum_yes b c l h).symm
  have fin1 : ¬ (1 ≤ b ∧ b ≤ c ∧ c ≤ 65536 ∧ 1 ≤ l ∧ l ≤ 16) → (35 : Int) = cnum b c l := fun h => (cnum_no b c l h).symm
  have F0 := Lib.hid fin0
  have F1 := Lib.hid fin1
  clear fin0 fin1
  by_cases h1 : 1 ≤ b
  · by_cases h2 : b ≤ c
    · by_cases h3 : c ≤ 65536
      · by_cases h4 : 1 ≤ l
        · by_cases h5 : l ≤ 16
          · go_enter Tryd.func9, Tryd.ntmps9
            go_wp2
            go_ret
            exact ⟨ret_int (F0.out (by omega)), rfl⟩
          · go_enter Tryd.func9, Tryd.ntmps9
            go_wp2
            go_ret
            exact ⟨ret_int (F1.out (by omega)), rfl⟩
        · go_enter Tryd.func9, Tryd.ntmps9
          go_wp2
          go_ret
          exact ⟨ret_int (F1.out (by omega)), rfl⟩
      · go_enter Tryd.func9, Tryd.ntmps9
        go_wp2
        go_ret
        exact ⟨ret_int (F1.out (by omega)), rfl⟩
    · go_enter Tryd.func9, Tryd.ntmps9
      go_wp2
      go_ret
      exact ⟨ret_int (F1.out (by omega)), rfl⟩
  · go_enter Tryd.func9, Tryd.ntmps9
    go_wp2
    go_ret
    exact ⟨ret_int (F1.out (by omega)), rfl⟩
end Go.Proofs.YtemeepkahefbiaaDoor
