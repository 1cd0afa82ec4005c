/-
  Plain facts on keys of parts (no program in it): the form of a part, the order of texts and of lists, beginnings, there and back.
-/
import GoSem.Op.String
namespace Go.Proofs.YtfgkgehlokabgaaDoor.Ky
open Go.Op (bytesLess)

structure Part where
  num : Bool
  n : Int
  s : List UInt8
  deriving DecidableEq

/-- A part with the field that isn't looked at emptied. -/
def norm (p : Part) : Part := if p.num = true then ⟨true, p.n, []⟩ else ⟨false, 0, p.s⟩
def fine (p : Part) : Prop := p.num = true → -9223372036854775808 ≤ p.n ∧ p.n ≤ 9223372036854775807
def be : Nat → Nat → List UInt8
  | 0, _ => []
  | k + 1, u => UInt8.ofNat (u / 256 ^ k) :: be k (u % 256 ^ k)
def esc : List UInt8 → List UInt8
  | [] => []
  | c :: s => if c = 0 then 0 :: 255 :: esc s else c :: esc s
def top (n : Int) : Nat := (n + 9223372036854775808).toNat
def form (p : Part) : List UInt8 := if p.num = true then 1 :: be 8 (top p.n) else 2 :: (esc p.s ++ [0, 1])
def key (l : List Part) : List UInt8 := l.flatMap form

theorem norm_norm (p : Part) : norm (norm p) = norm p := by unfold norm; cases h : p.num <;> simp
theorem form_norm (p : Part) : form (norm p) = form p := by unfold form norm; cases h : p.num <;> simp
theorem key_nil : key [] = [] := rfl
theorem key_cons (p : Part) (l : List Part) : key (p :: l) = form p ++ key l := rfl
theorem key_append (a b : List Part) : key (a ++ b) = key a ++ key b := by simp [key]
theorem key_norm (l : List Part) : key (l.map norm) = key l := by
  induction l with
  | nil => rfl
  | cons p l ih => rw [List.map_cons, key_cons, key_cons, form_norm, ih]
theorem be_length (k : Nat) : ∀ u, (be k u).length = k := by
  induction k with
  | zero => intro u; rfl
  | succ k ih => intro u; simp [be, ih]

/- The order of texts. -/
theorem less_irrefl : ∀ x : List UInt8, bytesLess x x = false
  | [] => rfl
  | a :: x => by simp [bytesLess, less_irrefl x, UInt8.lt_irrefl]
theorem less_total : ∀ x y : List UInt8, bytesLess x y = false → bytesLess y x = false → x = y
  | [], [], _, _ => rfl
  | [], _ :: _, h, _ => by simp [bytesLess] at h
  | _ :: _, [], _, h => by simp [bytesLess] at h
  | a :: x, b :: y, h, h' => by
    simp only [bytesLess, Bool.or_eq_false_iff, decide_eq_false_iff_not, Bool.and_eq_false_iff, beq_eq_false_iff_ne] at h h'
    have e : a = b := by
      have h1 := UInt8.not_lt.1 h.1
      have h2 := UInt8.not_lt.1 h'.1
      exact UInt8.le_antisymm h2 h1
    subst e
    rw [less_total x y (by simpa using h.2) (by simpa using h'.2)]
theorem less_trans : ∀ x y z : List UInt8, bytesLess x y = true → bytesLess y z = true → bytesLess x z = true
  | _, [], _, h, _ => by simp [bytesLess] at h
  | _, _ :: _, [], _, h => by simp [bytesLess] at h
  | [], _ :: _, _ :: _, _, _ => rfl
  | a :: x, b :: y, c :: z, h, h' => by
    simp only [bytesLess, Bool.or_eq_true, decide_eq_true_eq, Bool.and_eq_true, beq_iff_eq] at h h' ⊢
    rcases h with h | ⟨rfl, h⟩
    · rcases h' with h' | ⟨rfl, h'⟩
      · exact .inl (UInt8.lt_trans h h')
      · exact .inl h
    · rcases h' with h' | ⟨rfl, h'⟩
      · exact .inl h'
      · exact .inr ⟨rfl, less_trans x y z h h'⟩
theorem less_asymm (x y : List UInt8) (h : bytesLess x y = true) : bytesLess y x = false := by
  cases h' : bytesLess y x
  · rfl
  · have := less_trans x y x h h'
    rw [less_irrefl] at this
    cases this
theorem less_append (c x y : List UInt8) : bytesLess (c ++ x) (c ++ y) = bytesLess x y := by
  induction c with
  | nil => rfl
  | cons a c ih => simp [bytesLess, ih, UInt8.lt_irrefl]
theorem not_less_nil (x : List UInt8) : bytesLess x [] = false := by cases x <;> rfl
theorem nil_less (x : List UInt8) : bytesLess [] x = !x.isEmpty := by cases x <;> rfl

/-- x and y differ at a place within both, where x has the lesser byte. -/
def Lt (x y : List UInt8) : Prop := ∃ c u v x' y', x = c ++ u :: x' ∧ y = c ++ v :: y' ∧ u < v
theorem Lt.cons (a : UInt8) {x y : List UInt8} (h : Lt x y) : Lt (a :: x) (a :: y) := by
  obtain ⟨c, u, v, x', y', rfl, rfl, hlt⟩ := h
  exact ⟨a :: c, u, v, x', y', rfl, rfl, hlt⟩
theorem Lt.head {u v : UInt8} (h : u < v) (x y : List UInt8) : Lt (u :: x) (v :: y) := ⟨[], u, v, x, y, rfl, rfl, h⟩
theorem Lt.more {x y : List UInt8} (h : Lt x y) (t t' : List UInt8) : Lt (x ++ t) (y ++ t') := by
  obtain ⟨c, u, v, x', y', rfl, rfl, hlt⟩ := h
  exact ⟨c, u, v, x' ++ t, y' ++ t', by simp, by simp, hlt⟩
theorem Lt.less {x y : List UInt8} (h : Lt x y) : bytesLess x y = true := by
  obtain ⟨c, u, v, x', y', rfl, rfl, hlt⟩ := h
  rw [less_append]
  simp [bytesLess, hlt]
theorem Lt.begin {x y : List UInt8} (h : Lt x y) (t : List UInt8) : x ++ t ≠ y ∧ y ++ t ≠ x := by
  obtain ⟨c, u, v, x', y', rfl, rfl, hlt⟩ := h
  constructor
  · intro e
    simp only [List.append_assoc, List.cons_append, List.append_cancel_left_eq, List.cons.injEq] at e
    rw [e.1] at hlt
    exact UInt8.lt_irrefl _ hlt
  · intro e
    simp only [List.append_assoc, List.cons_append, List.append_cancel_left_eq, List.cons.injEq] at e
    rw [e.1] at hlt
    exact UInt8.lt_irrefl _ hlt

theorem be_lt (k : Nat) : ∀ u v : Nat, u < v → v < 256 ^ k → Lt (be k u) (be k v) := by
  induction k with
  | zero => intro u v h1 h2; simp at h2; omega
  | succ k ih =>
    intro u v h1 h2
    have hp : 0 < 256 ^ k := Nat.pow_pos (by omega)
    have hv : v / 256 ^ k < 256 := Nat.div_lt_of_lt_mul (by rw [Nat.pow_succ] at h2; exact h2)
    have hu : u / 256 ^ k ≤ v / 256 ^ k := Nat.div_le_div_right (Nat.le_of_lt h1)
    by_cases he : u / 256 ^ k = v / 256 ^ k
    · have hu' := Nat.div_add_mod u (256 ^ k)
      have hv' := Nat.div_add_mod v (256 ^ k)
      rw [he] at hu'
      simp only [be, he]
      exact (ih (u % 256 ^ k) (v % 256 ^ k) (by omega) (Nat.mod_lt _ hp)).cons _
    · simp only [be]
      refine Lt.head ?_ _ _
      rw [UInt8.lt_iff_toNat_lt, UInt8.toNat_ofNat_of_lt' (show u / 256 ^ k < 256 by omega), UInt8.toNat_ofNat_of_lt' (show v / 256 ^ k < 256 by omega)]
      omega
theorem zero_lt {b : UInt8} (h : b ≠ 0) : (0 : UInt8) < b := by
  rw [UInt8.lt_iff_toNat_lt]
  have : b.toNat ≠ 0 := fun e => h (UInt8.toNat_inj.1 e)
  simp; omega
theorem esc_lt : ∀ s t : List UInt8, bytesLess s t = true → Lt (esc s ++ [0, 1]) (esc t ++ [0, 1])
  | _, [], h => by simp [not_less_nil] at h
  | [], b :: t, _ => by
    by_cases hb : b = 0
    · subst hb
      simp only [esc, if_true]
      exact (Lt.head (by decide) _ _).cons _
    · simp only [esc, if_neg hb]
      exact Lt.head (zero_lt hb) _ _
  | a :: s, b :: t, h => by
    simp only [bytesLess, Bool.or_eq_true, decide_eq_true_eq, Bool.and_eq_true, beq_iff_eq] at h
    rcases h with h | ⟨rfl, h⟩
    · have hb : b ≠ 0 := by rintro rfl; rw [UInt8.lt_iff_toNat_lt] at h; simp at h
      by_cases ha : a = 0
      · subst ha
        simp only [esc, if_true, if_neg hb]
        exact Lt.head h _ _
      · simp only [esc, if_neg ha, if_neg hb]
        exact Lt.head h _ _
    · have ih := esc_lt s t h
      by_cases ha : a = 0
      · subst ha
        simp only [esc, if_true]
        exact (ih.cons _).cons _
      · simp only [esc, if_neg ha]
        exact ih.cons _

/-- The order of parts: -1, 0, 1. -/
def cmpP (a b : Part) : Int :=
  if a.num = true then (if b.num = true then (if a.n < b.n then -1 else if b.n < a.n then 1 else 0) else -1)
  else if b.num = true then 1 else (if bytesLess a.s b.s = true then -1 else if bytesLess b.s a.s = true then 1 else 0)
def cmpL : List Part → List Part → Int
  | [], [] => 0
  | [], _ :: _ => -1
  | _ :: _, [] => 1
  | a :: x, b :: y => if cmpP a b = 0 then cmpL x y else cmpP a b
theorem ite_range {c : Bool} {x y : Int} (hx : x = -1 ∨ x = 0 ∨ x = 1) (hy : y = -1 ∨ y = 0 ∨ y = 1) : (if c = true then x else y) = -1 ∨ (if c = true then x else y) = 0 ∨ (if c = true then x else y) = 1 := by
  cases c
  · simpa using hy
  · simpa using hx
theorem cmpP_range (a b : Part) : cmpP a b = -1 ∨ cmpP a b = 0 ∨ cmpP a b = 1 := by
  unfold cmpP
  refine ite_range (ite_range ?_ (.inl rfl)) (ite_range (.inr (.inr rfl)) (ite_range (.inl rfl) (ite_range (.inr (.inr rfl)) (.inr (.inl rfl)))))
  split
  · exact .inl rfl
  · split
    · exact .inr (.inr rfl)
    · exact .inr (.inl rfl)
theorem cmpL_range : ∀ a b : List Part, cmpL a b = -1 ∨ cmpL a b = 0 ∨ cmpL a b = 1
  | [], [] => by simp [cmpL]
  | [], _ :: _ => by simp [cmpL]
  | _ :: _, [] => by simp [cmpL]
  | a :: x, b :: y => by
    unfold cmpL
    split
    · exact cmpL_range x y
    · exact cmpP_range a b
theorem cmpP_anti (a b : Part) : cmpP b a = - cmpP a b := by
  unfold cmpP
  cases ha : a.num <;> cases hb : b.num <;> simp
  · by_cases h1 : bytesLess a.s b.s = true
    · simp [h1, less_asymm _ _ h1]
    · by_cases h2 : bytesLess b.s a.s = true <;> simp [h1, h2]
  · by_cases h1 : a.n < b.n
    · simp [h1, show ¬ b.n < a.n by omega]
    · by_cases h2 : b.n < a.n <;> simp [h1, h2]
theorem cmpL_anti : ∀ a b : List Part, cmpL b a = - cmpL a b
  | [], [] => rfl
  | [], _ :: _ => rfl
  | _ :: _, [] => rfl
  | a :: x, b :: y => by
    unfold cmpL
    rw [cmpP_anti a b]
    by_cases h : cmpP a b = 0
    · simp [h, cmpL_anti x y]
    · simp [h, show ¬ (- cmpP a b) = 0 by omega]
theorem cmpP_zero (a b : Part) : cmpP a b = 0 ↔ norm a = norm b := by
  unfold cmpP norm
  cases ha : a.num <;> cases hb : b.num <;> simp
  · constructor
    · intro h
      split at h
      · cases h
      · split at h
        · cases h
        · rename_i h1 h2
          exact less_total _ _ (by simpa using h1) (by simpa using h2)
    · intro h
      rw [h, less_irrefl]
      simp
  · constructor
    · intro h
      split at h
      · cases h
      · split at h
        · cases h
        · omega
    · intro h
      rw [h]
      simp
theorem cmpL_zero : ∀ a b : List Part, cmpL a b = 0 ↔ a.map norm = b.map norm
  | [], [] => by simp [cmpL]
  | [], _ :: _ => by simp [cmpL]
  | _ :: _, [] => by simp [cmpL]
  | a :: x, b :: y => by
    unfold cmpL
    rw [List.map_cons, List.map_cons, List.cons.injEq, ← cmpP_zero a b, ← cmpL_zero x y]
    by_cases h : cmpP a b = 0
    · simp [h]
    · simp [h]

theorem form_lt (a b : Part) (ha : fine a) (hb : fine b) (h : cmpP a b = -1) : Lt (form a) (form b) := by
  unfold cmpP at h
  unfold form
  cases hna : a.num <;> cases hnb : b.num
  · rw [hna, hnb] at h
    simp only [Bool.false_eq_true, if_false] at h ⊢
    by_cases h1 : bytesLess a.s b.s = true
    · exact (esc_lt _ _ h1).cons _
    · rw [if_neg h1] at h
      split at h <;> omega
  · rw [hna, hnb] at h
    simp at h
  · simp only [Bool.false_eq_true, if_false, if_true]
    exact Lt.head (by decide) _ _
  · rw [hna, hnb] at h
    simp only [if_true] at h ⊢
    have h1 := ha hna
    have h2 := hb hnb
    by_cases h3 : a.n < b.n
    · refine (be_lt 8 _ _ ?_ ?_).cons _
      · unfold top; omega
      · unfold top; omega
    · rw [if_neg h3] at h
      split at h <;> omega
theorem key_less : ∀ a b : List Part, (∀ p ∈ a, fine p) → (∀ p ∈ b, fine p) → cmpL a b = -1 → bytesLess (key a) (key b) = true
  | [], [], _, _, h => by simp [cmpL] at h
  | [], p :: b, _, _, _ => by
    rw [key_nil, nil_less, key_cons]
    unfold form
    split <;> rfl
  | _ :: _, [], _, _, h => by simp [cmpL] at h
  | p :: a, q :: b, ha, hb, h => by
    unfold cmpL at h
    rw [key_cons, key_cons]
    by_cases e : cmpP p q = 0
    · rw [if_pos e] at h
      rw [← form_norm p, (cmpP_zero p q).1 e, form_norm, less_append]
      exact key_less a b (fun x hx => ha x (by simp [hx])) (fun x hx => hb x (by simp [hx])) h
    · rw [if_neg e] at h
      exact ((form_lt p q (ha p (by simp)) (hb q (by simp)) h).more _ _).less
theorem key_zero (a b : List Part) (h : cmpL a b = 0) : key a = key b := by rw [← key_norm a, (cmpL_zero a b).1 h, key_norm]

/-- KeysOrder's heart. -/
theorem key_order (a b : List Part) (ha : ∀ p ∈ a, fine p) (hb : ∀ p ∈ b, fine p) : (bytesLess (key a) (key b) = decide (cmpL a b < 0)) ∧ ((key a == key b) = decide (cmpL a b = 0)) := by
  rcases cmpL_range a b with h | h | h
  · have h1 := key_less a b ha hb h
    have h2 : key a ≠ key b := fun e => by rw [e, less_irrefl] at h1; cases h1
    rw [h1, h]
    simp [h2]
  · have h1 := key_zero a b h
    rw [h1, less_irrefl, h]
    simp
  · have h1 := key_less b a hb ha (by rw [cmpL_anti a b, h])
    have h2 : key a ≠ key b := fun e => by rw [e, less_irrefl] at h1; cases h1
    rw [less_asymm _ _ h1, h]
    simp [h2]
theorem cmpL_trans (a b c : List Part) (ha : ∀ p ∈ a, fine p) (hb : ∀ p ∈ b, fine p) (hc : ∀ p ∈ c, fine p) (h1 : cmpL a b ≤ 0) (h2 : cmpL b c ≤ 0) : cmpL a c ≤ 0 := by
  rcases cmpL_range a c with h | h | h
  · omega
  · omega
  · exfalso
    have k := key_less c a hc ha (by rw [cmpL_anti a c, h])
    rcases cmpL_range a b with e1 | e1 | e1
    · have k1 := key_less a b ha hb e1
      have k2 := less_trans _ _ _ k k1
      rcases cmpL_range b c with e2 | e2 | e2
      · have := less_trans _ _ _ k2 (key_less b c hb hc e2)
        rw [less_irrefl] at this; cases this
      · rw [key_zero b c e2, less_irrefl] at k2; cases k2
      · omega
    · rw [key_zero a b e1] at k
      rcases cmpL_range b c with e2 | e2 | e2
      · have := less_trans _ _ _ k (key_less b c hb hc e2)
        rw [less_irrefl] at this; cases this
      · rw [key_zero b c e2, less_irrefl] at k; cases k
      · omega
    · omega

/- Beginnings. -/
theorem form_ne_nil (p : Part) : form p ≠ [] := by unfold form; split <;> simp
theorem forms_begin (p q : Part) (hp : fine p) (hq : fine q) (t t' : List UInt8) (h : form p ++ t = form q ++ t') : norm p = norm q ∧ t = t' := by
  rcases cmpP_range p q with e | e | e
  · exfalso
    have := (form_lt p q hp hq e).more t t'
    exact (this.begin []).1 (by rw [List.append_nil]; exact h)
  · have e' := (cmpP_zero p q).1 e
    refine ⟨e', ?_⟩
    rw [← form_norm p, e', form_norm] at h
    exact List.append_cancel_left h
  · exfalso
    have := (form_lt q p hq hp (by rw [cmpP_anti p q, e])).more t' t
    exact (this.begin []).1 (by rw [List.append_nil]; exact h.symm)
theorem keys_begin : ∀ (a b : List Part) (t : List UInt8), (∀ p ∈ a, fine p) → (∀ p ∈ b, fine p) → key b = key a ++ t → ∃ b', b.map norm = a.map norm ++ b'.map norm ∧ key b' = t ∧ (∀ p ∈ b', fine p) ∧ b' = b.drop a.length
  | [], b, t, _, hb, h => ⟨b, rfl, h, hb, rfl⟩
  | p :: a, [], t, _, _, h => by
    exfalso
    rw [key_nil, key_cons] at h
    have := congrArg List.length h
    have hf : (form p).length ≠ 0 := fun e => form_ne_nil p (List.eq_nil_of_length_eq_zero e)
    simp at this
    omega
  | p :: a, q :: b, t, ha, hb, h => by
    rw [key_cons, key_cons, List.append_assoc] at h
    obtain ⟨e, h'⟩ := forms_begin q p (hb q (by simp)) (ha p (by simp)) _ _ h
    obtain ⟨b', h1, h2, h3, h4⟩ := keys_begin a b t (fun x hx => ha x (by simp [hx])) (fun x hx => hb x (by simp [hx])) h'
    exact ⟨b', by simp [e, h1], h2, h3, by simpa using h4⟩
theorem key_inj (a b : List Part) (ha : ∀ p ∈ a, fine p) (hb : ∀ p ∈ b, fine p) (h : key a = key b) : a.map norm = b.map norm := by
  have := (key_order a b ha hb).2
  rw [h] at this
  simp at this
  exact (cmpL_zero a b).1 this
/-- KeysHeads' heart: a key begins with another just as the lists do. -/
theorem key_heads (a b : List Part) (ha : ∀ p ∈ a, fine p) (hb : ∀ p ∈ b, fine p) : (∃ t, key b = key a ++ t) ↔ a.length ≤ b.length ∧ a.map norm = (b.take a.length).map norm := by
  constructor
  · rintro ⟨t, h⟩
    obtain ⟨b', h1, _, _, h4⟩ := keys_begin a b t ha hb h
    have hl := congrArg List.length h1
    simp at hl
    refine ⟨by omega, ?_⟩
    rw [List.map_take, h1, List.take_left' (by simp)]
  · rintro ⟨h1, h2⟩
    refine ⟨key (b.drop a.length), ?_⟩
    rw [← key_norm a, h2, key_norm, ← key_append, List.take_append_drop]
end Go.Proofs.YtfgkgehlokabgaaDoor.Ky
