/-
  Plain arithmetic on waits (no program in it): raw waits by doubling, their sums, the spread.
-/
namespace Go.Proofs.YtemeepkahefbiaaDoor.Bk

/-- r doubled at most k times, while below c. -/
def dbl : Nat → Int → Int → Int
  | 0, r, _ => r
  | k + 1, r, c => if r < c then dbl k (2 * r) c else r

theorem dbl_zero (r c : Int) : dbl 0 r c = r := rfl
theorem dbl_stop (k : Nat) (r c : Int) (h : ¬ r < c) : dbl k r c = r := by cases k <;> simp [dbl, h]
theorem dbl_step (k : Nat) (r c : Int) (h : r < c) : dbl (k + 1) r c = dbl k (2 * r) c := by simp [dbl, h]
theorem dbl_last (k : Nat) : ∀ r c : Int, dbl (k + 1) r c = if dbl k r c < c then 2 * dbl k r c else dbl k r c := by
  induction k with
  | zero => intro r c; rfl
  | succ k ih =>
    intro r c
    by_cases h : r < c
    · rw [dbl_step (k + 1) r c h, ih (2 * r) c, dbl_step k r c h]
    · rw [dbl_stop (k + 2) r c h, dbl_stop (k + 1) r c h, if_neg h]
theorem dbl_bd (k : Nat) : ∀ r c : Int, 1 ≤ r → r ≤ 2 * c → r ≤ dbl k r c ∧ dbl k r c ≤ 2 * c := by
  induction k with
  | zero => intro r c h1 h2; simp [dbl]; omega
  | succ k ih =>
    intro r c h1 h2
    by_cases h : r < c
    · rw [dbl_step k r c h]; have := ih (2 * r) c (by omega) (by omega); omega
    · rw [dbl_stop (k + 1) r c h]; omega

/-- The raw wait over a plan's base and cap. -/
def rwt (b c : Int) (k : Nat) : Int := min (dbl k b c) c
theorem rwt_zero (b c : Int) (h : b ≤ c) : rwt b c 0 = b := by simp [rwt, dbl]; omega
theorem rwt_succ (b c : Int) (k : Nat) (h1 : 1 ≤ b) (h2 : b ≤ c) : rwt b c (k + 1) = min (2 * rwt b c k) c := by
  have hb := dbl_bd k b c h1 (by omega)
  unfold rwt
  rw [dbl_last]
  by_cases h : dbl k b c < c
  · rw [if_pos h, Int.min_eq_left (a := dbl k b c) (by omega)]
  · rw [if_neg h]; omega
theorem rwt_bd (b c : Int) (k : Nat) (h1 : 1 ≤ b) (h2 : b ≤ c) : b ≤ rwt b c k ∧ rwt b c k ≤ c := by
  have hb := dbl_bd k b c h1 (by omega)
  unfold rwt; omega

/-- The raw wait, as the program's and the reference's Raw answer it. -/
def raw (b c n : Int) : Int := if 1 ≤ n ∧ 1 ≤ b ∧ b ≤ c ∧ c ≤ 65536 then rwt b c (n - 1).toNat else 0
theorem raw_no (b c n : Int) (h : ¬ (1 ≤ n ∧ 1 ≤ b ∧ b ≤ c ∧ c ≤ 65536)) : raw b c n = 0 := by simp only [raw]; rw [if_neg h]
theorem raw_yes (b c n : Int) (h : 1 ≤ n ∧ 1 ≤ b ∧ b ≤ c ∧ c ≤ 65536) : raw b c n = rwt b c (n - 1).toNat := by simp only [raw]; rw [if_pos h]
theorem raw_bd (b c n : Int) : 0 ≤ raw b c n ∧ raw b c n ≤ 65536 := by
  by_cases h : 1 ≤ n ∧ 1 ≤ b ∧ b ≤ c ∧ c ≤ 65536
  · rw [raw_yes b c n h]; have := rwt_bd b c (n - 1).toNat h.2.1 h.2.2.1; omega
  · rw [raw_no b c n h]; omega

/-- The number out of which the spread is drawn. -/
def mix (n m : Int) : Nat := (((m % 4294967296) * 2654435761 + (n % 4294967296) * 2246822519) % 4294967296).toNat
theorem mix_val (n m : Int) : ((mix n m : Nat) : Int) = ((m % 4294967296) * 2654435761 + (n % 4294967296) * 2246822519) % 4294967296 := Int.toNat_of_nonneg (Int.emod_nonneg _ (by decide))
theorem mix_lt (n m : Int) : mix n m < 4294967296 := by unfold mix; omega
def spread (r n m : Int) : Int := (((mix n m ^^^ mix n m / 32768) % (r / 4 + 1).toNat : Nat) : Int)
theorem spread_bd (r n m : Int) (h : 0 ≤ r) : 0 ≤ spread r n m ∧ spread r n m ≤ r / 4 := by
  unfold spread
  have h1 : (mix n m ^^^ mix n m / 32768) % (r / 4 + 1).toNat < (r / 4 + 1).toNat := Nat.mod_lt _ (by omega)
  generalize (mix n m ^^^ mix n m / 32768) % (r / 4 + 1).toNat = z at h1 ⊢
  omega
def wait (b c n m : Int) : Int := if raw b c n = 0 then 0 else raw b c n - spread (raw b c n) n m

/-- The sum of the first k raw waits. -/
def sums (b c : Int) : Nat → Int
  | 0 => 0
  | k + 1 => sums b c k + rwt b c k
theorem sums_bd (b c : Int) (h1 : 1 ≤ b) (h2 : b ≤ c) : ∀ k : Nat, 0 ≤ sums b c k ∧ sums b c k ≤ k * c
  | 0 => by simp [sums]
  | k + 1 => by
    have h := sums_bd b c h1 h2 k
    have hr := rwt_bd b c k h1 h2
    simp only [sums]
    rw [show ((k + 1 : Nat) : Int) * c = (k : Int) * c + c from by rw [Int.natCast_succ, Int.add_mul, Int.one_mul]]
    omega
def goodPlan (b c l : Int) : Prop := 1 ≤ b ∧ b ≤ c ∧ c ≤ 65536 ∧ 1 ≤ l ∧ l ≤ 16
instance (b c l : Int) : Decidable (goodPlan b c l) := by unfold goodPlan; infer_instance
def longest (b c l : Int) : Int := if goodPlan b c l then sums b c l.toNat else 0
def bound (c d : Int) : Int := if 1 ≤ c ∧ c ≤ 65536 ∧ 0 ≤ d ∧ d ≤ 16 then (d + 1) * c + 1 else 0
end Go.Proofs.YtemeepkahefbiaaDoor.Bk
