/-
  Plain laws of layer 7 (no program in it): the sector of a stamp and a payload as a list of bytes; what counts; tears.
-/
import Derived.Test.YtffmekcpkilkoaaDoorGet
import Derived.Test.YtffmekcpkilkoaaDoorCrc
namespace Go.Proofs.YtffmekcpkilkoaaDoor

/-- The n low bytes of x, the low one first. -/
def lowL (x n : Nat) : List UInt8 := (List.range n).map (wb x)
theorem lowL_length (x n : Nat) : (lowL x n).length = n := by simp [lowL]
theorem lowL_succ (x n : Nat) : lowL x (n + 1) = lowL x n ++ [wb x n] := by simp [lowL, List.range_succ]
theorem putL_eq (l : List UInt8) (off x : Nat) : ∀ n, off + n ≤ l.length → putL l off x n = l.take off ++ lowL x n ++ l.drop (off + n)
  | 0, h => by simp [putL, lowL]
  | n + 1, h => by
    have ih := putL_eq l off x n (by omega)
    show (putL l off x n).set (off + n) (wb x n) = _
    rw [ih, lowL_succ]
    have h1 : (l.take off ++ lowL x n).length = off + n := by simp [lowL_length]; omega
    rw [List.set_append_right _ _ (by omega), h1, Nat.sub_self]
    rw [List.drop_eq_getElem_cons (by omega : off + n < l.length)]
    simp [Nat.add_assoc]

theorem getN_add (l : List UInt8) (a : Nat) : ∀ b, getN l (a + b) = getN l a + getN (l.drop a) b * 2 ^ (8 * a)
  | 0 => by simp [getN]
  | b + 1 => by
    have ih := getN_add l a b
    show getN l (a + b) + (l.getD (a + b) 0).toNat * 2 ^ (8 * (a + b)) = getN l a + (getN (l.drop a) b + ((l.drop a).getD b 0).toNat * 2 ^ (8 * b)) * 2 ^ (8 * a)
    rw [ih, Nat.add_mul, Nat.mul_assoc, ← Nat.pow_add, Nat.mul_add, Nat.add_comm (8 * b), Nat.add_assoc]
    congr 3
    simp [List.getD_eq_getElem?_getD]
theorem getN_congr (l l' : List UInt8) : ∀ n, (∀ k, k < n → l.getD k 0 = l'.getD k 0) → getN l n = getN l' n
  | 0, _ => rfl
  | n + 1, h => by
    show getN l n + _ = getN l' n + _
    rw [getN_congr l l' n (fun k hk => h k (by omega)), h n (by omega)]
theorem getN_append (l l' : List UInt8) (n : Nat) (h : n ≤ l.length) : getN (l ++ l') n = getN l n :=
  getN_congr _ _ n fun k hk => by simp [List.getD_eq_getElem?_getD, List.getElem?_append_left (by omega : k < l.length)]
theorem getN_take (l : List UInt8) (n m : Nat) (h : n ≤ m) : getN (l.take m) n = getN l n :=
  getN_congr _ _ n fun k hk => by simp [List.getD_eq_getElem?_getD, show k < m by omega]
theorem wb_toNat (x k : Nat) : (wb x k).toNat = x / 2 ^ (8 * k) % 256 := by
  have := wb_val x k
  have h : ((x : Int) / 2 ^ (8 * k) % 256) = ((x / 2 ^ (8 * k) % 256 : Nat) : Int) := by rw [Int.natCast_emod, Int.natCast_ediv, Int.natCast_pow]; rfl
  omega
theorem getN_low (x n : Nat) : ∀ m, m ≤ n → getN (lowL x n) m = x % 2 ^ (8 * m)
  | 0, _ => by simp [getN, Nat.mod_one]
  | m + 1, h => by
    show getN (lowL x n) m + ((lowL x n).getD m 0).toNat * 2 ^ (8 * m) = _
    have e : (lowL x n).getD m 0 = wb x m := by simp [lowL, List.getD_eq_getElem?_getD, List.getElem?_map, List.getElem?_range (show m < n by omega)]
    rw [getN_low x n m (by omega), e, wb_toNat, Nat.mul_add, Nat.pow_add, show (2 : Nat) ^ (8 * 1) = 256 by decide, Nat.mod_mul]; congr 1; exact Nat.mul_comm _ _
theorem getN_low_all (x n : Nat) (h : x < 2 ^ (8 * n)) : getN (lowL x n) n = x := by rw [getN_low x n n (Nat.le_refl _), Nat.mod_eq_of_lt h]
/-- Texts of one length that tell one number are one. -/
theorem getN_inj : ∀ (n : Nat) (l l' : List UInt8), l.length = n → l'.length = n → getN l n = getN l' n → l = l' := by
  intro n
  induction n with
  | zero => intro l l' h h' _; rw [List.eq_nil_of_length_eq_zero h, List.eq_nil_of_length_eq_zero h']
  | succ n ih =>
    intro l l' h h' e
    match l, l', h, h' with
    | c :: l, d :: l', h, h' =>
      have e1 := getN_add (c :: l) 1 n
      have e2 := getN_add (d :: l') 1 n
      rw [Nat.add_comm 1 n] at e1 e2
      rw [e1, e2] at e
      have hc : getN (c :: l) 1 = c.toNat := by simp [getN]
      have hd : getN (d :: l') 1 = d.toNat := by simp [getN]
      rw [hc, hd] at e
      have c1 := c.toNat_lt
      have d1 := d.toNat_lt
      have e3 : c.toNat = d.toNat := by
        have := congrArg (· % 256) e
        simp only [show (2 : Nat) ^ (8 * 1) = 256 by decide, Nat.add_mul_mod_self_right] at this
        omega
      have e4 : getN l n = getN l' n := by
        simp only [show (2 : Nat) ^ (8 * 1) = 256 by decide, List.drop_succ_cons, List.drop_zero] at e
        omega
      have hl : l = l' := ih l l' (by simpa using h) (by simpa using h') e4
      have hcd : c = d := UInt8.toNat_inj.1 e3
      rw [hl, hcd]

/-- The sector's first 244 bytes. -/
def headL (stamp : Nat) (p : List UInt8) : List UInt8 := lowL stamp 8 ++ lowL p.length 2 ++ p ++ List.replicate (234 - p.length) 0
/-- The sector of a stamp and a payload. -/
def sealL (stamp : Nat) (p : List UInt8) : List UInt8 := headL stamp p ++ lowL (Crc.sum (headL stamp p)).toNat 4 ++ lowL stamp 8
theorem headL_length (stamp : Nat) (p : List UInt8) (h : p.length ≤ 234) : (headL stamp p).length = 244 := by
  simp [headL, lowL_length]; omega
theorem sealL_length (stamp : Nat) (p : List UInt8) (h : p.length ≤ 234) : (sealL stamp p).length = 256 := by
  simp [sealL, headL_length stamp p h, lowL_length]
theorem sealL_assoc (stamp : Nat) (p : List UInt8) : sealL stamp p = lowL stamp 8 ++ (lowL p.length 2 ++ (p ++ (List.replicate (234 - p.length) 0 ++ (lowL (Crc.sum (headL stamp p)).toNat 4 ++ lowL stamp 8)))) := by
  simp [sealL, headL]
theorem sealL_take8 (stamp : Nat) (p : List UInt8) : (sealL stamp p).take 8 = lowL stamp 8 := by
  rw [sealL_assoc, List.take_append_of_le_length (by simp [lowL_length]), List.take_of_length_le (by simp [lowL_length])]
theorem sealL_drop248 (stamp : Nat) (p : List UInt8) (h : p.length ≤ 234) : (sealL stamp p).drop 248 = lowL stamp 8 := by
  unfold sealL
  rw [List.drop_append_of_le_length (by simp [headL_length stamp p h, lowL_length]), List.drop_of_length_le (by simp [headL_length stamp p h, lowL_length]), List.nil_append]
theorem sealL_drop8 (stamp : Nat) (p : List UInt8) : (sealL stamp p).drop 8 = lowL p.length 2 ++ (p ++ (List.replicate (234 - p.length) 0 ++ (lowL (Crc.sum (headL stamp p)).toNat 4 ++ lowL stamp 8))) := by
  rw [sealL_assoc, List.drop_append_of_le_length (by simp [lowL_length]), List.drop_of_length_le (by simp [lowL_length]), List.nil_append]
theorem sealL_drop10 (stamp : Nat) (p : List UInt8) : (sealL stamp p).drop 10 = p ++ (List.replicate (234 - p.length) 0 ++ (lowL (Crc.sum (headL stamp p)).toNat 4 ++ lowL stamp 8)) := by
  rw [show (10 : Nat) = 8 + 2 from rfl, ← List.drop_drop, sealL_drop8, List.drop_append_of_le_length (by simp [lowL_length]), List.drop_of_length_le (by simp [lowL_length]), List.nil_append]
theorem sealL_len (stamp : Nat) (p : List UInt8) (h : p.length ≤ 234) : getN ((sealL stamp p).drop 8) 2 = p.length := by
  rw [sealL_drop8, getN_append _ _ 2 (by simp [lowL_length]), getN_low_all _ _ (by omega)]
theorem sealL_pay (stamp : Nat) (p : List UInt8) : ((sealL stamp p).drop 10).take p.length = p := by
  rw [sealL_drop10, List.take_append_of_le_length (Nat.le_refl _), List.take_length]
theorem sealL_head (stamp : Nat) (p : List UInt8) (hs : stamp < 18446744073709551616) : getN (sealL stamp p) 8 = stamp := by
  rw [sealL_assoc, getN_append _ _ 8 (by simp [lowL_length]), getN_low_all _ _ (by omega)]
theorem sealL_tail (stamp : Nat) (p : List UInt8) (h : p.length ≤ 234) (hs : stamp < 18446744073709551616) : getN ((sealL stamp p).drop 248) 8 = stamp := by
  rw [sealL_drop248 stamp p h, getN_low_all _ _ (by omega)]

/-- The payload, if the text counts under the stamp. -/
def openL (stamp : Nat) (raw : List UInt8) : Option (List UInt8) :=
  if stamp = 0 ∨ raw.length ≠ 256 then none
  else if 234 < getN (raw.drop 8) 2 then none
  else if sealL stamp ((raw.drop 10).take (getN (raw.drop 8) 2)) = raw then some ((raw.drop 10).take (getN (raw.drop 8) 2)) else none
theorem openL_iff (stamp : Nat) (raw p : List UInt8) : openL stamp raw = some p ↔ stamp ≠ 0 ∧ p.length ≤ 234 ∧ raw = sealL stamp p := by
  unfold openL
  constructor
  · intro h
    split at h
    · cases h
    · rename_i h1
      split at h
      · cases h
      · rename_i h2
        split at h
        · rename_i h3
          obtain rfl := Option.some.inj h
          exact ⟨fun e => h1 (.inl e), by simp; omega, h3.symm⟩
        · cases h
  · rintro ⟨h1, h2, rfl⟩
    rw [if_neg (by simp [h1, sealL_length stamp p h2]), sealL_len stamp p h2, if_neg (by omega), sealL_pay, if_pos rfl]
theorem openL_none (stamp : Nat) (raw : List UInt8) : openL stamp raw = none ↔ ¬ (stamp ≠ 0 ∧ ∃ p : List UInt8, p.length ≤ 234 ∧ raw = sealL stamp p) := by
  constructor
  · rintro h ⟨h1, p, h2, h3⟩
    rw [(openL_iff stamp raw p).2 ⟨h1, h2, h3⟩] at h
    cases h
  · intro h
    cases e : openL stamp raw with
    | none => rfl
    | some p => exact absurd ⟨((openL_iff _ _ _).1 e).1, p, ((openL_iff _ _ _).1 e).2⟩ h
theorem openL_isSome (stamp : Nat) (raw : List UInt8) : (openL stamp raw).isSome = true ↔ stamp ≠ 0 ∧ ∃ p : List UInt8, p.length ≤ 234 ∧ raw = sealL stamp p := by
  cases e : openL stamp raw with
  | none => simpa using (openL_none _ _).1 e
  | some p => simpa using ⟨((openL_iff _ _ _).1 e).1, p, ((openL_iff _ _ _).1 e).2⟩

/-- The tear's text. -/
def tornL (old fresh : List UInt8) (n : Nat) : List UInt8 := fresh.take n ++ old.drop n
theorem tornL_length (old fresh : List UInt8) (n : Nat) (ho : old.length = 256) (hf : fresh.length = 256) (hn : n ≤ 256) : (tornL old fresh n).length = 256 := by
  simp [tornL]; omega
theorem tornL_all (old fresh : List UInt8) (ho : old.length = 256) (hf : fresh.length = 256) : tornL old fresh 256 = fresh := by
  unfold tornL
  rw [List.take_of_length_le (by omega), List.drop_of_length_le (by omega), List.append_nil]
theorem torn_tail_low (old fresh : List UInt8) (n : Nat) (hf : fresh.length = 256) (hn : n ≤ 248) : (tornL old fresh n).drop 248 = old.drop 248 := by
  unfold tornL
  rw [List.drop_append, List.drop_of_length_le (by simp; omega), List.nil_append, List.drop_drop]
  simp; congr 1; omega
theorem torn_tail_high (old fresh : List UInt8) (m : Nat) (hf : fresh.length = 256) (hm : m ≤ 8) : (tornL old fresh (248 + m)).drop 248 = (fresh.drop 248).take m ++ (old.drop 248).drop m := by
  unfold tornL
  rw [List.drop_append_of_le_length (by simp; omega), List.drop_take, List.drop_drop]
  simp
theorem torn_head (old fresh : List UInt8) (n k : Nat) (hf : fresh.length = 256) (hk : k ≤ n) (hn : n ≤ 256) : (tornL old fresh n).take k = fresh.take k := by
  unfold tornL
  rw [List.take_append_of_le_length (by simp; omega), List.take_take, Nat.min_eq_left hk]
/-- If the old text's rest is the fresh one's, the tear is the fresh one. -/
theorem torn_rest (old fresh : List UInt8) (n : Nat) (h : old.drop n = fresh.drop n) : tornL old fresh n = fresh := by
  unfold tornL
  rw [h, List.take_append_drop]
/-- If the fresh text's beginning is the old one's, the tear is the old one. -/
theorem torn_old (old fresh : List UInt8) (n : Nat) (h : fresh.take n = old.take n) : tornL old fresh n = old := by
  unfold tornL
  rw [h, List.take_append_drop]
/-- What stands in the last eight bytes behind a write of a greater stamp. -/
theorem torn_tail_le (old fresh : List UInt8) (n s : Nat) (ho : old.length = 256) (hf : fresh.length = 256) (hn : n ≤ 256) (hs : getN (fresh.drop 248) 8 = s) (hlt : getN (old.drop 248) 8 < s) :
    getN ((tornL old fresh n).drop 248) 8 ≤ s ∧ (getN ((tornL old fresh n).drop 248) 8 = s → tornL old fresh n = fresh) := by
  by_cases h : n ≤ 248
  · rw [torn_tail_low old fresh n hf h]
    exact ⟨by omega, fun e => by omega⟩
  · obtain ⟨m, rfl⟩ : ∃ m, n = 248 + m := ⟨n - 248, by omega⟩
    have hm : m ≤ 8 := by omega
    rw [torn_tail_high old fresh m hf hm]
    have lf : (fresh.drop 248).length = 8 := by simp; omega
    have lo : (old.drop 248).length = 8 := by simp; omega
    have e0 := getN_add ((fresh.drop 248).take m ++ (old.drop 248).drop m) m (8 - m)
    have e1 := getN_add (fresh.drop 248) m (8 - m)
    have e2 := getN_add (old.drop 248) m (8 - m)
    rw [Nat.add_sub_of_le hm] at e0 e1 e2
    rw [getN_append _ _ m (by simp; omega), getN_take (fresh.drop 248) m m (Nat.le_refl _), List.drop_left' (by simp; omega)] at e0
    have b1 := getN_lt (fresh.drop 248) m
    have b2 := getN_lt (old.drop 248) m
    rw [hs] at e1
    generalize hS : getN (fresh.drop 248) m = S at *
    generalize hO : getN (old.drop 248) m = O at *
    generalize hH : getN ((fresh.drop 248).drop m) (8 - m) = H at *
    generalize hL : getN ((old.drop 248).drop m) (8 - m) = L at *
    have hle : L ≤ H := by
      rcases Nat.lt_or_ge H L with hh | hh
      · exfalso
        have : (H + 1) * 2 ^ (8 * m) ≤ L * 2 ^ (8 * m) := Nat.mul_le_mul_right _ hh
        rw [Nat.add_mul, Nat.one_mul] at this
        omega
      · exact hh
    have hmul : L * 2 ^ (8 * m) ≤ H * 2 ^ (8 * m) := Nat.mul_le_mul_right _ hle
    refine ⟨by omega, fun e => ?_⟩
    have hmul2 : L * 2 ^ (8 * m) = H * 2 ^ (8 * m) := by omega
    have hLH : L = H := Nat.eq_of_mul_eq_mul_right (Nat.two_pow_pos _) hmul2
    apply torn_rest
    have := getN_inj (8 - m) ((old.drop 248).drop m) ((fresh.drop 248).drop m) (by simp; omega) (by simp; omega) (by rw [hL, hH, hLH])
    simpa [List.drop_drop, Nat.add_comm] using this
end Go.Proofs.YtffmekcpkilkoaaDoor
