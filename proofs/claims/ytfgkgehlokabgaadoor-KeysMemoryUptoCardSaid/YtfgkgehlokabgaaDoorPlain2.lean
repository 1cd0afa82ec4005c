/-
  Plain facts on keys, more (no program in it): what After tells; how a key is read back.
-/
import Derived.Test.YtfgkgehlokabgaaDoorPlain
namespace Go.Proofs.YtfgkgehlokabgaaDoor.Ky
open Go.Op (bytesLess)

/-- Does t begin with s? -/
def beg (t s : List UInt8) : Bool := decide (s.length ≤ t.length) && (t.take s.length == s)
theorem beg_iff (t s : List UInt8) : beg t s = true ↔ ∃ r, t = s ++ r := by
  unfold beg
  simp only [Bool.and_eq_true, decide_eq_true_eq, beq_iff_eq]
  constructor
  · rintro ⟨_, h⟩
    exact ⟨t.drop s.length, by conv => lhs; rw [← List.take_append_drop s.length t, h]⟩
  · rintro ⟨r, rfl⟩
    simp
theorem beg_cons (a b : UInt8) (t s : List UInt8) : beg (b :: t) (a :: s) = ((b == a) && beg t s) := by
  rw [Bool.eq_iff_iff, beg_iff, Bool.and_eq_true, beg_iff]
  constructor
  · rintro ⟨r, h⟩
    simp only [List.cons_append, List.cons.injEq] at h
    exact ⟨by simp [h.1], r, h.2⟩
  · rintro ⟨h, r, e⟩
    exact ⟨r, by simp at h; simp [h, e]⟩
theorem beg_nil (t : List UInt8) : beg t [] = true := (beg_iff _ _).2 ⟨t, rfl⟩
theorem nil_beg (a : UInt8) (s : List UInt8) : beg [] (a :: s) = false := by simp [beg]

/-- The bytes 255 at the end away, the last byte one greater. -/
def tops (k : Nat) : List UInt8 := List.replicate k 255
theorem u8_lt_255 (b : UInt8) (h : b ≠ 255) : b < 255 := by
  rw [UInt8.lt_iff_toNat_lt]
  have h1 := b.toNat_lt
  have h2 : b.toNat ≠ 255 := fun e => h (UInt8.toNat_inj.1 e)
  show b.toNat < 255
  omega
theorem beg_tops : ∀ (k : Nat) (t : List UInt8), beg t (tops k) = !bytesLess t (tops k)
  | 0, t => by rw [show tops 0 = [] from rfl, beg_nil, not_less_nil]; rfl
  | k + 1, [] => by rw [show tops (k + 1) = 255 :: tops k from rfl, nil_beg]; rfl
  | k + 1, b :: t => by
    rw [show tops (k + 1) = 255 :: tops k from rfl, beg_cons, beg_tops k t]
    simp only [bytesLess]
    by_cases h : b = 255
    · subst h; simp [UInt8.lt_irrefl]
    · simp [u8_lt_255 b h, h]
theorem succ_byte (c : UInt8) (hc : c ≠ 255) (b : UInt8) : (b < c + 1) = (b < c ∨ b = c) := by
  have h1 := c.toNat_lt
  have h2 : c.toNat ≠ 255 := fun e => hc (UInt8.toNat_inj.1 e)
  have e : (c + 1).toNat = c.toNat + 1 := by rw [UInt8.toNat_add]; show (c.toNat + 1) % 256 = _; omega
  rw [UInt8.lt_iff_toNat_lt, UInt8.lt_iff_toNat_lt, e, ← UInt8.toNat_inj]
  exact propext (by omega)
/-- What After promises: t begins with s just if it lies from s on and below After of s. -/
theorem beg_after (c : UInt8) (hc : c ≠ 255) (k : Nat) : ∀ (p t : List UInt8), beg t (p ++ c :: tops k) = (!bytesLess t (p ++ c :: tops k) && bytesLess t (p ++ [c + 1]))
  | [], [] => by simp [nil_beg, bytesLess]
  | [], b :: t => by
    rw [List.nil_append, List.nil_append, beg_cons, beg_tops]
    simp only [bytesLess, not_less_nil, Bool.and_false, Bool.or_false, succ_byte c hc b]
    by_cases h1 : b < c
    · have : b ≠ c := by rintro rfl; exact UInt8.lt_irrefl _ h1
      simp [h1, this]
    · by_cases h2 : b = c
      · subst h2; simp [UInt8.lt_irrefl]
      · simp [h1, h2]
  | a :: p, [] => by simp [nil_beg, bytesLess]
  | a :: p, b :: t => by
    rw [List.cons_append, List.cons_append, beg_cons, beg_after c hc k p t]
    simp only [bytesLess]
    by_cases h1 : b < a
    · have : b ≠ a := by rintro rfl; exact UInt8.lt_irrefl _ h1
      simp [h1, this]
    · by_cases h2 : b = a
      · subst h2; simp [UInt8.lt_irrefl]
      · have h3 : (b == a) = false := by simpa using h2
        simp [h1, h3]
theorem after_less (c : UInt8) (hc : c ≠ 255) (k : Nat) (p : List UInt8) : bytesLess (p ++ c :: tops k) (p ++ [c + 1]) = true ∧ beg (p ++ [c + 1]) (p ++ c :: tops k) = false := by
  have h : bytesLess (p ++ c :: tops k) (p ++ [c + 1]) = true := by
    rw [less_append]
    simp [bytesLess, succ_byte c hc c]
  refine ⟨h, ?_⟩
  rw [beg_after c hc k p, less_irrefl, Bool.and_false]

/- There and back. -/
/-- The text part whose form, without its mark, a key begins with. -/
def textF : List UInt8 → Option (List UInt8 × List UInt8)
  | [] => none
  | [c] => if c = 0 then none else none
  | c :: d :: r => if c = 0 then (if d = 255 then (textF r).map (fun x => (0 :: x.1, x.2)) else if d = 1 then some ([], r) else none) else (textF (d :: r)).map (fun x => (c :: x.1, x.2))
theorem textF_some : ∀ (k s r : List UInt8), textF k = some (s, r) → k = esc s ++ 0 :: 1 :: r
  | [], s, r, h => by simp [textF] at h
  | [c], s, r, h => by simp [textF] at h
  | c :: d :: k, s, r, h => by
    unfold textF at h
    by_cases hc : c = 0
    · rw [if_pos hc] at h
      subst hc
      by_cases hd : d = 255
      · rw [if_pos hd] at h
        subst hd
        obtain ⟨⟨s', r'⟩, h1, h2⟩ := Option.map_eq_some_iff.1 h
        simp only [Prod.mk.injEq] at h2
        obtain ⟨rfl, rfl⟩ := h2
        rw [textF_some k s' r' h1]
        simp [esc]
      · rw [if_neg hd] at h
        by_cases h1 : d = 1
        · rw [if_pos h1] at h
          simp only [Option.some.injEq, Prod.mk.injEq] at h
          obtain ⟨rfl, rfl⟩ := h
          rw [h1]; rfl
        · rw [if_neg h1] at h; cases h
    · rw [if_neg hc] at h
      obtain ⟨⟨s', r'⟩, h1, h2⟩ := Option.map_eq_some_iff.1 h
      simp only [Prod.mk.injEq] at h2
      obtain ⟨rfl, rfl⟩ := h2
      rw [textF_some (d :: k) s' r' h1]
      simp [esc, hc]
theorem textF_esc : ∀ (s r : List UInt8), textF (esc s ++ 0 :: 1 :: r) = some (s, r)
  | [], r => by simp [esc, textF]
  | c :: s, r => by
    by_cases hc : c = 0
    · subst hc
      simp only [esc, if_true, List.cons_append]
      unfold textF
      simp [textF_esc s r]
    · have ih := textF_esc s r
      simp only [esc, if_neg hc, List.cons_append]
      cases hk : esc s ++ 0 :: 1 :: r with
      | nil => simp at hk
      | cons d k =>
        rw [hk] at ih
        unfold textF
        rw [if_neg hc, ih]
        rfl
/-- The number of eight bytes, the highest first. -/
def unbe (l : List UInt8) : Nat := l.foldl (fun n c => n * 256 + c.toNat) 0
theorem unbe_snoc (l : List UInt8) (c : UInt8) : unbe (l ++ [c]) = unbe l * 256 + c.toNat := by simp [unbe]
theorem unbe_cons (c : UInt8) (l : List UInt8) : unbe (c :: l) = c.toNat * 256 ^ l.length + unbe l := by
  have h : ∀ (l : List UInt8) (n : Nat), l.foldl (fun n c => n * 256 + c.toNat) n = n * 256 ^ l.length + unbe l := by
    intro l
    induction l with
    | nil => intro n; simp [unbe]
    | cons d l ih =>
      intro n
      unfold unbe
      simp only [List.foldl_cons, List.length_cons]
      rw [ih, ih (0 * 256 + d.toNat), Nat.pow_succ, Nat.add_mul, Nat.add_assoc, Nat.mul_comm (256 ^ l.length) 256, ← Nat.mul_assoc]
      simp
  have := h l c.toNat
  unfold unbe at this ⊢
  simpa using this
theorem unbe_lt (l : List UInt8) : unbe l < 256 ^ l.length := by
  induction l with
  | nil => simp [unbe]
  | cons c l ih =>
    rw [unbe_cons, List.length_cons, Nat.pow_succ]
    have := c.toNat_lt
    have h : c.toNat * 256 ^ l.length ≤ 255 * 256 ^ l.length := Nat.mul_le_mul_right _ (by omega)
    omega
theorem unbe_be (k : Nat) : ∀ u, u < 256 ^ k → unbe (be k u) = u := by
  induction k with
  | zero => intro u h; simp at h; subst h; rfl
  | succ k ih =>
    intro u h
    have hp : 0 < 256 ^ k := Nat.pow_pos (by omega)
    have hu : u / 256 ^ k < 256 := Nat.div_lt_of_lt_mul (by rw [Nat.pow_succ] at h; exact h)
    simp only [be]
    rw [unbe_cons, be_length, ih _ (Nat.mod_lt _ hp), UInt8.toNat_ofNat_of_lt' (show u / 256 ^ k < 256 from hu), Nat.mul_comm]
    exact Nat.div_add_mod u (256 ^ k)
theorem be_unbe : ∀ (l : List UInt8), be l.length (unbe l) = l
  | [] => rfl
  | c :: l => by
    have h := unbe_lt l
    have hp : 0 < 256 ^ l.length := Nat.pow_pos (by omega)
    rw [unbe_cons, List.length_cons]
    simp only [be]
    rw [Nat.mul_comm c.toNat, Nat.mul_add_div hp, Nat.mul_add_mod, Nat.div_eq_of_lt h, Nat.mod_eq_of_lt h, be_unbe l]
    simp
/-- The part with which a key begins, and what stands behind it. -/
def firstF : List UInt8 → Option (Part × List UInt8)
  | [] => none
  | c :: k => if c = 1 then (if k.length < 8 then none else some (⟨true, (unbe (k.take 8) : Int) - 9223372036854775808, []⟩, k.drop 8)) else if c = 2 then (textF k).map (fun x => (⟨false, 0, x.1⟩, x.2)) else none
theorem firstF_cons (c : UInt8) (k : List UInt8) : firstF (c :: k) = if c = 1 then (if k.length < 8 then none else some (⟨true, (unbe (k.take 8) : Int) - 9223372036854775808, []⟩, k.drop 8)) else if c = 2 then (textF k).map (fun x => (⟨false, 0, x.1⟩, x.2)) else none := rfl
theorem norm_clean (p : Part) (h : norm p = p) : (p.num = true → p.s = []) ∧ (p.num = false → p.n = 0) := by
  unfold norm at h
  cases hp : p.num <;> rw [hp] at h <;> simp at h
  · exact ⟨(fun e => by simp at e), (fun _ => by rw [← h])⟩
  · exact ⟨(fun _ => by rw [← h]), (fun e => by simp at e)⟩
theorem firstF_some (k r : List UInt8) (p : Part) (h : firstF k = some (p, r)) : k = form p ++ r ∧ norm p = p ∧ fine p := by
  cases k with
  | nil => simp [firstF] at h
  | cons c k =>
    rw [firstF_cons] at h
    by_cases h1 : c = 1
    · rw [if_pos h1] at h
      subst h1
      by_cases h8 : k.length < 8
      · rw [if_pos h8] at h; cases h
      · rw [if_neg h8] at h
        simp only [Option.some.injEq, Prod.mk.injEq] at h
        obtain ⟨rfl, rfl⟩ := h
        have hl : (k.take 8).length = 8 := by rw [List.length_take]; omega
        have hlt := unbe_lt (k.take 8)
        rw [hl] at hlt
        refine ⟨?_, by simp [norm], fun _ => ?_⟩
        · have e : top ((unbe (k.take 8) : Int) - 9223372036854775808) = unbe (k.take 8) := by unfold top; omega
          have e2 := be_unbe (k.take 8)
          rw [hl] at e2
          simp only [form, if_true, e, e2, List.cons_append, List.take_append_drop]
        · have : (256 : Nat) ^ 8 = 18446744073709551616 := by decide
          dsimp only
          omega
    · rw [if_neg h1] at h
      by_cases h2 : c = 2
      · rw [if_pos h2] at h
        subst h2
        obtain ⟨⟨s, r'⟩, h3, h4⟩ := Option.map_eq_some_iff.1 h
        simp only [Prod.mk.injEq] at h4
        obtain ⟨rfl, rfl⟩ := h4
        refine ⟨?_, by simp [norm], fun e => by cases e⟩
        rw [textF_some k s r' h3]
        simp [form]
      · rw [if_neg h2] at h; cases h
theorem firstF_form (p : Part) (hp : fine p) (r : List UInt8) : firstF (form p ++ r) = some (norm p, r) := by
  unfold form
  cases h : p.num
  · simp only [Bool.false_eq_true, if_false, List.cons_append, List.append_assoc, List.nil_append]
    rw [firstF_cons, if_neg (by decide), if_pos rfl, textF_esc]
    simp [norm, h]
  · have hf := hp h
    simp only [if_true, List.cons_append]
    have hl := be_length 8 (top p.n)
    rw [firstF_cons, if_pos rfl, if_neg (by rw [List.length_append, hl]; omega), List.take_left' hl, List.drop_left' hl, unbe_be 8 (top p.n) (by unfold top; omega)]
    simp only [norm, h, if_true, top]
    congr 3
    omega
theorem firstF_shorter (k r : List UInt8) (p : Part) (h : firstF k = some (p, r)) : r.length < k.length := by
  obtain ⟨e, _, _⟩ := firstF_some k r p h
  have hf : (form p).length ≠ 0 := fun e => form_ne_nil p (List.eq_nil_of_length_eq_zero e)
  rw [e, List.length_append]
  omega
/-- A list whose key this is, its parts clean. -/
def IsKey (k : List UInt8) (l : List Part) : Prop := key l = k ∧ (∀ p ∈ l, norm p = p) ∧ ∀ p ∈ l, fine p
theorem map_norm_clean (l : List Part) (h : ∀ p ∈ l, norm p = p) : l.map norm = l := by
  induction l with
  | nil => rfl
  | cons p l ih => rw [List.map_cons, h p (by simp), ih fun q hq => h q (by simp [hq])]
theorem IsKey.unique {k : List UInt8} {l l' : List Part} (h : IsKey k l) (h' : IsKey k l') : l = l' := by
  have := key_inj l l' h.2.2 h'.2.2 (h.1.trans h'.1.symm)
  rwa [map_norm_clean l h.2.1, map_norm_clean l' h'.2.1] at this
/-- The reading stops where no part begins: then no list has this key. -/
theorem no_key (k rest : List UInt8) (done : List Part) (hd : ∀ p ∈ done, fine p) (hk : key done ++ rest = k) (hr : rest ≠ []) (hf : firstF rest = none) (l : List Part) : ¬ IsKey k l := by
  rintro ⟨h1, _, h3⟩
  obtain ⟨b', _, e2, e3, _⟩ := keys_begin done l rest hd h3 (h1.trans hk.symm)
  cases b' with
  | nil => exact hr e2.symm
  | cons q b' =>
    rw [key_cons] at e2
    rw [← e2, firstF_form q (e3 q (by simp))] at hf
    cases hf
end Go.Proofs.YtfgkgehlokabgaaDoor.Ky
