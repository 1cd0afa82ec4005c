/-
  Plain facts on check digits (no program in it): rests by 97, the two check digits, Luhn's digit; what one slip does.
-/
namespace Go.Proofs.YtnigkjpcccccbaaDoor.Chk

def isDig (c : UInt8) : Bool := decide (48 ≤ (c.toNat : Int)) && decide ((c.toNat : Int) ≤ 57)
def isCap (c : UInt8) : Bool := decide (65 ≤ (c.toNat : Int)) && decide ((c.toNat : Int) ≤ 90)
def ok (c : UInt8) : Bool := isDig c || isCap c
theorem isDig_iff (c : UInt8) : isDig c = true ↔ 48 ≤ (c.toNat : Int) ∧ (c.toNat : Int) ≤ 57 := by simp [isDig]
theorem isCap_iff (c : UInt8) : isCap c = true ↔ 65 ≤ (c.toNat : Int) ∧ (c.toNat : Int) ≤ 90 := by simp [isCap]

/-- One character more. -/
def step (r : Int) (c : UInt8) : Int := if isDig c = true then (10 * r + ((c.toNat : Int) - 48)) % 97 else (100 * r + ((c.toNat : Int) - 55)) % 97
def fold (r : Int) (l : List UInt8) : Int := l.foldl step r
def rest (l : List UInt8) : Int := fold 0 l
def valid (l : List UInt8) : Bool := !l.isEmpty && l.all ok

theorem step_bd (r : Int) (c : UInt8) : 0 ≤ step r c ∧ step r c ≤ 96 := by unfold step; split <;> omega
theorem fold_nil (r : Int) : fold r [] = r := rfl
theorem fold_cons (r : Int) (c : UInt8) (l : List UInt8) : fold r (c :: l) = fold (step r c) l := rfl
theorem fold_append (r : Int) (a b : List UInt8) : fold r (a ++ b) = fold (fold r a) b := by simp [fold]
theorem fold_snoc (r : Int) (a : List UInt8) (c : UInt8) : fold r (a ++ [c]) = step (fold r a) c := by simp [fold]
theorem fold_bd (l : List UInt8) : ∀ r : Int, 0 ≤ r → r ≤ 96 → 0 ≤ fold r l ∧ fold r l ≤ 96 := by
  induction l with
  | nil => intro r h1 h2; exact ⟨h1, h2⟩
  | cons c l ih => intro r _ _; rw [fold_cons]; exact ih _ (step_bd r c).1 (step_bd r c).2
theorem rest_bd (l : List UInt8) : 0 ≤ rest l ∧ rest l ≤ 96 := fold_bd l 0 (by omega) (by omega)

theorem step_inj (c : UInt8) {r r' : Int} (h0 : 0 ≤ r) (h1 : r ≤ 96) (h0' : 0 ≤ r') (h1' : r' ≤ 96) (h : step r c = step r' c) : r = r' := by
  unfold step at h
  split at h <;> omega
theorem fold_inj (l : List UInt8) : ∀ {r r' : Int}, 0 ≤ r → r ≤ 96 → 0 ≤ r' → r' ≤ 96 → fold r l = fold r' l → r = r' := by
  induction l with
  | nil => intro r r' _ _ _ _ h; exact h
  | cons c l ih =>
    intro r r' h0 h1 h0' h1' h
    rw [fold_cons, fold_cons] at h
    have a := step_bd r c
    have b := step_bd r' c
    exact step_inj c h0 h1 h0' h1' (ih a.1 a.2 b.1 b.2 h)

/-- Of one class. -/
def cls (c : UInt8) : Int := if isDig c = true then 1 else if isCap c = true then 2 else 0
theorem cls_ok {a b : UInt8} (h : cls a = cls b) (ha : ok a = true) : ok b = true ∧ isDig a = isDig b := by
  unfold cls at h
  unfold ok at *
  revert h ha
  generalize isDig a = x
  generalize isDig b = y
  generalize isCap a = z
  generalize isCap b = t
  revert x y z t
  decide
theorem one_slip (p q : List UInt8) (a b : UInt8) (hne : a ≠ b) (hc : cls a = cls b) (ha : ok a = true) : rest (p ++ a :: q) ≠ rest (p ++ b :: q) := by
  intro h
  unfold rest at h
  rw [fold_append, fold_append, fold_cons, fold_cons] at h
  have hp := fold_bd p 0 (by omega) (by omega)
  have s1 := step_bd (fold 0 p) a
  have s2 := step_bd (fold 0 p) b
  have h' := fold_inj q s1.1 s1.2 s2.1 s2.2 h
  obtain ⟨hb, hd⟩ := cls_ok hc ha
  have hn : (a.toNat : Int) ≠ b.toNat := fun e => hne (UInt8.toNat_inj.1 (by omega))
  unfold step at h'
  unfold ok at ha hb
  cases hda : isDig a
  · rw [hda] at hd ha h'
    rw [← hd] at h' hb
    simp only [Bool.false_or] at ha hb
    have := (isCap_iff a).1 ha
    have := (isCap_iff b).1 hb
    simp only [Bool.false_eq_true, if_false] at h'
    omega
  · rw [hda] at hd h'
    rw [← hd] at h'
    have := (isDig_iff a).1 hda
    have := (isDig_iff b).1 hd.symm
    simp only [if_true] at h'
    omega
theorem two_slip (p q : List UInt8) (a b : UInt8) (hne : a ≠ b) (hc : cls a = cls b) (ha : ok a = true) : rest (p ++ a :: b :: q) ≠ rest (p ++ b :: a :: q) := by
  intro h
  unfold rest at h
  rw [fold_append, fold_append, fold_cons, fold_cons, fold_cons, fold_cons] at h
  have hp := fold_bd p 0 (by omega) (by omega)
  have s1 := step_bd (step (fold 0 p) a) b
  have s2 := step_bd (step (fold 0 p) b) a
  have h' := fold_inj q s1.1 s1.2 s2.1 s2.2 h
  obtain ⟨hb, hd⟩ := cls_ok hc ha
  have hn : (a.toNat : Int) ≠ b.toNat := fun e => hne (UInt8.toNat_inj.1 (by omega))
  unfold step at h'
  unfold ok at ha hb
  generalize fold 0 p = r at *
  cases hda : isDig a
  · rw [hda] at hd ha h'
    rw [← hd] at h' hb
    simp only [Bool.false_or] at ha hb
    have := (isCap_iff a).1 ha
    have := (isCap_iff b).1 hb
    simp only [Bool.false_eq_true, if_false] at h'
    omega
  · rw [hda] at hd h'
    rw [← hd] at h'
    have := (isDig_iff a).1 hda
    have := (isDig_iff b).1 hd.symm
    simp only [if_true] at h'
    omega

/-- The check digits, as a number (2 to 98) and as two bytes. -/
def dnum (l : List UInt8) : Int := 98 - rest (l ++ [48, 48])
theorem dnum_bd (l : List UInt8) : 2 ≤ dnum l ∧ dnum l ≤ 98 := by have := rest_bd (l ++ [48, 48]); unfold dnum; omega
def dig (n : Int) : UInt8 := UInt8.ofNat (48 + n).toNat
theorem dig_val (n : Int) (h0 : 0 ≤ n) (h9 : n ≤ 9) : ((dig n).toNat : Int) = 48 + n := by
  unfold dig
  have : (48 + n).toNat < 256 := by omega
  rw [UInt8.toNat_ofNat_of_lt' this]
  omega
def digits (l : List UInt8) : List UInt8 := [dig (dnum l / 10), dig (dnum l % 10)]
def fits (l : List UInt8) : Bool := decide (3 ≤ l.length) && valid (l.take (l.length - 2)) && (digits (l.take (l.length - 2)) == l.drop (l.length - 2))

theorem isDig_dig (n : Int) (h0 : 0 ≤ n) (h9 : n ≤ 9) : isDig (dig n) = true := (isDig_iff _).2 (by rw [dig_val n h0 h9]; omega)
theorem digits_isDig (l : List UInt8) : ∀ c ∈ digits l, isDig c = true := by
  intro c hc
  have := dnum_bd l
  rcases List.mem_cons.1 hc with rfl | hc
  · exact isDig_dig _ (by omega) (by omega)
  · rw [List.mem_singleton] at hc
    subst hc
    exact isDig_dig _ (by omega) (by omega)
theorem rest_digits (l : List UInt8) : rest (l ++ digits l) = 1 := by
  have hb := dnum_bd l
  have hr := rest_bd l
  have e : ∀ a b : UInt8, rest (l ++ [a, b]) = step (step (rest l) a) b := fun a b => by unfold rest; rw [fold_append]; rfl
  have hd : dnum l = 98 - step (step (rest l) 48) 48 := by unfold dnum; rw [e]
  unfold digits
  rw [e]
  have v1 := dig_val (dnum l / 10) (by omega) (by omega)
  have v2 := dig_val (dnum l % 10) (by omega) (by omega)
  have d1 := isDig_dig (dnum l / 10) (by omega) (by omega)
  have d2 := isDig_dig (dnum l % 10) (by omega) (by omega)
  have z : isDig 48 = true := by decide
  have z' : ((48 : UInt8).toNat : Int) = 48 := rfl
  unfold step at hd ⊢
  rw [if_pos z, if_pos z, z'] at hd
  rw [if_pos d1, if_pos d2, v1, v2]
  omega
theorem fits_rest (l : List UInt8) (h : fits l = true) : valid l = true ∧ rest l = 1 := by
  unfold fits at h
  simp only [Bool.and_eq_true, decide_eq_true_eq, beq_iff_eq] at h
  obtain ⟨⟨h3, hv⟩, hd⟩ := h
  have hl : l.take (l.length - 2) ++ digits (l.take (l.length - 2)) = l := by rw [hd]; exact List.take_append_drop _ _
  refine ⟨?_, ?_⟩
  · unfold valid at hv ⊢
    simp only [Bool.and_eq_true] at hv ⊢
    refine ⟨?_, ?_⟩
    · cases l with
      | nil => simp at h3
      | cons => rfl
    · rw [← hl, List.all_append, hv.2]
      simp only [Bool.true_and]
      exact List.all_eq_true.2 fun c hc => by unfold ok; rw [digits_isDig _ c hc]; rfl
  · have := rest_digits (l.take (l.length - 2))
    rwa [hl] at this
theorem fits_digits (l : List UInt8) (h : valid l = true) : fits (l ++ digits l) = true := by
  have hl : (l ++ digits l).length - 2 = l.length := by simp [digits]
  unfold fits
  rw [hl, List.take_left, List.drop_left]
  simp only [h, Bool.and_true, decide_eq_true_eq, beq_self_eq_true]
  unfold valid at h
  simp only [Bool.and_eq_true] at h
  cases l with
  | nil => simp at h
  | cons c l => simp [digits]
theorem valid_zeros (l : List UInt8) (h : valid l = true) : valid (l ++ [48, 48]) = true := by
  unfold valid at h ⊢
  simp only [Bool.and_eq_true] at h ⊢
  rw [List.all_append, h.2]
  exact ⟨by simp, by decide⟩
theorem valid_of_zeros (l : List UInt8) (h : valid (l ++ [48, 48]) = true) (hne : l ≠ []) : valid l = true := by
  unfold valid at h ⊢
  simp only [Bool.and_eq_true, List.all_append] at h ⊢
  exact ⟨by cases l <;> simp_all, h.2.1⟩
/-- One slip in a text that fits: it does not fit. -/
theorem slip_one (p q : List UInt8) (a b : UInt8) (hf : fits (p ++ a :: q) = true) (hne : a ≠ b) (hc : cls a = cls b) : fits (p ++ b :: q) = false := by
  cases hg : fits (p ++ b :: q)
  · rfl
  · exfalso
    have h1 := fits_rest _ hf
    have h2 := fits_rest _ hg
    have ha : ok a = true := by
      have := h1.1
      unfold valid at this
      simp only [Bool.and_eq_true, List.all_append, List.all_cons] at this
      exact this.2.2.1
    exact one_slip p q a b hne hc ha (h1.2.trans h2.2.symm)
theorem slip_two (p q : List UInt8) (a b : UInt8) (hf : fits (p ++ a :: b :: q) = true) (hne : a ≠ b) (hc : cls a = cls b) : fits (p ++ b :: a :: q) = false := by
  cases hg : fits (p ++ b :: a :: q)
  · rfl
  · exfalso
    have h1 := fits_rest _ hf
    have h2 := fits_rest _ hg
    have ha : ok a = true := by
      have := h1.1
      unfold valid at this
      simp only [Bool.and_eq_true, List.all_append, List.all_cons] at this
      exact this.2.2.1
    exact two_slip p q a b hne hc ha (h1.2.trans h2.2.symm)

/-- Luhn: what a digit counts, doubled or not. -/
def lv (dbl : Bool) (c : UInt8) : Int := if dbl = true then (if 2 * ((c.toNat : Int) - 48) > 9 then 2 * ((c.toNat : Int) - 48) - 9 else 2 * ((c.toNat : Int) - 48)) else (c.toNat : Int) - 48
/-- The sum of a text: the last digit is doubled, and so on alternately. -/
def lsum : List UInt8 → Int
  | [] => 0
  | c :: l => lv (decide (l.length % 2 = 0)) c + lsum l
def luhn (l : List UInt8) : Int := (10 - lsum l % 10) % 10
def ldig (l : List UInt8) : Bool := !l.isEmpty && l.all isDig
theorem lv_bd (b : Bool) (c : UInt8) (h : isDig c = true) : 0 ≤ lv b c ∧ lv b c ≤ 9 := by
  have := (isDig_iff c).1 h
  unfold lv
  cases b
  · simp; omega
  · simp; split <;> omega
theorem lsum_bd : ∀ (l : List UInt8), l.all isDig = true → 0 ≤ lsum l ∧ lsum l ≤ 9 * l.length
  | [], _ => by simp [lsum]
  | c :: l, h => by
    simp only [List.all_cons, Bool.and_eq_true] at h
    have := lsum_bd l h.2
    have := lv_bd (decide (l.length % 2 = 0)) c h.1
    simp only [lsum, List.length_cons]
    omega
theorem luhn_bd (l : List UInt8) : 0 ≤ luhn l ∧ luhn l ≤ 9 := by unfold luhn; omega
theorem luhn_eq (l l' : List UInt8) (h : luhn l = luhn l') : lsum l % 10 = lsum l' % 10 := by unfold luhn at h; omega
theorem lsum_append (p : List UInt8) : ∀ q q' : List UInt8, q.length = q'.length → lsum (p ++ q) - lsum q = lsum (p ++ q') - lsum q' := by
  induction p with
  | nil => intro q q' _; simp
  | cons c p ih =>
    intro q q' h
    have := ih q q' h
    simp only [List.cons_append, lsum, List.length_append, h]
    omega
theorem lv_inj (b : Bool) (x y : UInt8) (hx : isDig x = true) (hy : isDig y = true) (h : lv b x % 10 = lv b y % 10) : x = y := by
  have := (isDig_iff x).1 hx
  have := (isDig_iff y).1 hy
  apply UInt8.toNat_inj.1
  unfold lv at h
  cases b
  · simp at h; omega
  · simp at h; split at h <;> split at h <;> omega
theorem luhn_one (p q : List UInt8) (a b : UInt8) (ha : isDig a = true) (hb : isDig b = true) (hne : a ≠ b) : luhn (p ++ a :: q) ≠ luhn (p ++ b :: q) := by
  intro h
  have h1 := luhn_eq _ _ h
  have h2 := lsum_append p (a :: q) (b :: q) rfl
  have h3 : lsum (a :: q) % 10 = lsum (b :: q) % 10 := by omega
  simp only [lsum] at h3
  exact hne (lv_inj (decide (q.length % 2 = 0)) a b ha hb (by omega))
theorem luhn_two (p q : List UInt8) (a b : UInt8) (ha : isDig a = true) (hb : isDig b = true) (hne : a ≠ b) (hz : (a.toNat : Int) + b.toNat ≠ 105 ∨ ((a.toNat : Int) ≠ 48 ∧ (a.toNat : Int) ≠ 57)) :
    luhn (p ++ a :: b :: q) ≠ luhn (p ++ b :: a :: q) := by
  intro h
  have h1 := luhn_eq _ _ h
  have h2 := lsum_append p (a :: b :: q) (b :: a :: q) rfl
  have h3 : lsum (a :: b :: q) % 10 = lsum (b :: a :: q) % 10 := by omega
  have hn : (a.toNat : Int) ≠ b.toNat := fun e => hne (UInt8.toNat_inj.1 (by omega))
  have := (isDig_iff a).1 ha
  have := (isDig_iff b).1 hb
  have l1 : (b :: q).length = q.length + 1 := rfl
  have l2 : (a :: q).length = q.length + 1 := rfl
  simp only [lsum] at h3
  rw [l1, l2] at h3
  rcases Nat.mod_two_eq_zero_or_one q.length with e | e
  · have d0 : decide (q.length % 2 = 0) = true := by simp [e]
    have d1 : decide ((q.length + 1) % 2 = 0) = false := by simp; omega
    rw [d0, d1] at h3
    unfold lv at h3
    simp at h3
    split at h3 <;> split at h3 <;> omega
  · have d0 : decide (q.length % 2 = 0) = false := by simp [e]
    have d1 : decide ((q.length + 1) % 2 = 0) = true := by simp; omega
    rw [d0, d1] at h3
    unfold lv at h3
    simp at h3
    split at h3 <;> split at h3 <;> omega
end Go.Proofs.YtnigkjpcccccbaaDoor.Chk
