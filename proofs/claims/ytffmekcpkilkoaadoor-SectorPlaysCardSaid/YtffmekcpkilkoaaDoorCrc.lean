/-
  Plain facts on CRC-32C (no program in it): one bit, one nibble, one byte; texts one behind the other; bursts.
-/
namespace Go.Proofs.YtffmekcpkilkoaaDoor.Crc

def poly : BitVec 32 := 0x82F63B78#32
/-- One bit of the register is turned out. -/
def bit1 (x : BitVec 32) : BitVec 32 := (x >>> 1) ^^^ (if x.getLsbD 0 then poly else 0#32)
def bits : Nat → BitVec 32 → BitVec 32
  | 0, x => x
  | n + 1, x => bits n (bit1 x)

theorem bit1_xor (x y : BitVec 32) : bit1 (x ^^^ y) = bit1 x ^^^ bit1 y := by
  unfold bit1
  rw [BitVec.ushiftRight_xor_distrib, BitVec.getLsbD_xor]
  have hp : poly ^^^ poly = 0#32 := by decide
  cases x.getLsbD 0 <;> cases y.getLsbD 0
  · simp
  · simp [BitVec.xor_assoc]
  · simp [BitVec.xor_assoc, BitVec.xor_comm poly]
  · have : (x >>> 1 ^^^ poly) ^^^ (y >>> 1 ^^^ poly) = (x >>> 1 ^^^ y >>> 1) ^^^ (poly ^^^ poly) := by ac_rfl
    simp only [Bool.true_xor, Bool.not_true, if_true]
    rw [this, hp]
    rfl
theorem bits_xor (n : Nat) : ∀ x y : BitVec 32, bits n (x ^^^ y) = bits n x ^^^ bits n y := by
  induction n with
  | zero => intro x y; rfl
  | succ n ih => intro x y; simp only [bits]; rw [bit1_xor, ih]
theorem bits_add (m : Nat) : ∀ (n : Nat) (x : BitVec 32), bits (m + n) x = bits n (bits m x) := by
  induction m with
  | zero => intro n x; rw [Nat.zero_add]; rfl
  | succ m ih => intro n x; rw [Nat.succ_add]; simp only [bits]; exact ih n (bit1 x)
theorem bits_zero (n : Nat) : bits n 0#32 = 0#32 := by
  induction n with
  | zero => rfl
  | succ n ih => simp only [bits]; rw [show bit1 0#32 = 0#32 from by decide, ih]

theorem bit1_eq_zero (x : BitVec 32) (h : bit1 x = 0#32) : x = 0#32 := by
  have h31 : (bit1 x).getLsbD 31 = false := by rw [h]; simp
  have h0 : x.getLsbD 0 = false := by
    cases hx : x.getLsbD 0
    · rfl
    · exfalso
      simp [bit1, hx, poly] at h31
  have hs : x >>> 1 = 0#32 := by
    unfold bit1 at h
    rw [h0] at h
    simpa using h
  apply BitVec.eq_of_getLsbD_eq
  intro i hi
  cases i with
  | zero => simpa using h0
  | succ i =>
    have := congrArg (fun z : BitVec 32 => z.getLsbD i) hs
    simpa [Nat.add_comm] using this
theorem bits_eq_zero (n : Nat) : ∀ x : BitVec 32, bits n x = 0#32 → x = 0#32 := by
  induction n with
  | zero => intro x h; exact h
  | succ n ih => intro x h; exact bit1_eq_zero x (ih _ h)
theorem xor_eq_zero {x y : BitVec 32} : x ^^^ y = 0#32 ↔ x = y := by
  constructor
  · intro h
    apply BitVec.eq_of_getLsbD_eq
    intro i hi
    have := congrArg (fun z : BitVec 32 => z.getLsbD i) h
    simpa using this
  · rintro rfl; simp
theorem bits_inj (n : Nat) {x y : BitVec 32} (h : bits n x = bits n y) : x = y := by
  rw [← xor_eq_zero] at h ⊢
  rw [← bits_xor] at h
  exact bits_eq_zero n _ h

/-- What four bits that fall out leave: the table of the program. -/
def tab : List Nat := [0x00000000, 0x105ec76f, 0x20bd8ede, 0x30e349b1, 0x417b1dbc, 0x5125dad3, 0x61c69362, 0x7198540d, 0x82f63b78, 0x92a8fc17, 0xa24bb5a6, 0xb21572c9, 0xc38d26c4, 0xd3d3e1ab, 0xe330a81a, 0xf36e6f75]
theorem tab_bits : ∀ i : Fin 16, BitVec.ofNat 32 (tab.getD i.val 0) = bits 4 (BitVec.ofNat 32 i.val) := by decide

theorem bit1_even (x : BitVec 32) (h : x.getLsbD 0 = false) : bit1 x = x >>> 1 := by
  unfold bit1
  rw [h]
  simp
theorem bits4_high (x : BitVec 32) (h0 : x.getLsbD 0 = false) (h1 : x.getLsbD 1 = false) (h2 : x.getLsbD 2 = false) (h3 : x.getLsbD 3 = false) : bits 4 x = x >>> 4 := by
  show bit1 (bit1 (bit1 (bit1 x))) = _
  rw [bit1_even x h0, bit1_even (x >>> 1) (by simpa using h1), bit1_even (x >>> 1 >>> 1) (by simpa using h2), bit1_even (x >>> 1 >>> 1 >>> 1) (by simpa using h3)]
  rw [← BitVec.shiftRight_add, ← BitVec.shiftRight_add, ← BitVec.shiftRight_add]
theorem split4 (x : BitVec 32) : x = ((x >>> 4) <<< 4) ^^^ (x &&& 15#32) := by
  apply BitVec.eq_of_getLsbD_eq
  intro i hi
  have h15 : (15#32).getLsbD i = decide (i < 4) := by
    revert i
    decide
  simp only [BitVec.getLsbD_xor, BitVec.getLsbD_and, BitVec.getLsbD_shiftLeft, BitVec.getLsbD_ushiftRight, h15]
  by_cases h : i < 4
  · simp [h]
  · simp [h, hi, show 4 + (i - 4) = i by omega]
theorem nibble (x : BitVec 32) : bits 4 x = (x >>> 4) ^^^ bits 4 (x &&& 15#32) := by
  conv => lhs; rw [split4 x]
  rw [bits_xor]
  congr 1
  have hlow : ∀ i, i < 4 → ((x >>> 4) <<< 4).getLsbD i = false := fun i hi => by
    rw [BitVec.getLsbD_shiftLeft]
    simp [hi]
  rw [bits4_high _ (hlow 0 (by omega)) (hlow 1 (by omega)) (hlow 2 (by omega)) (hlow 3 (by omega))]
  apply BitVec.eq_of_getLsbD_eq
  intro i hi
  simp only [BitVec.getLsbD_shiftLeft, BitVec.getLsbD_ushiftRight]
  by_cases h : 4 + i < 32
  · simp [h]
  · have : x.getLsbD (4 + i) = false := BitVec.getLsbD_of_ge _ _ (by omega)
    simp [this]

/-- One byte goes into the register. -/
def low (c : UInt8) : BitVec 32 := BitVec.ofNat 32 c.toNat
def byte1 (r : BitVec 32) (c : UInt8) : BitVec 32 := bits 8 (r ^^^ low c)
def reg (r : BitVec 32) (l : List UInt8) : BitVec 32 := l.foldl byte1 r
def ext (s : BitVec 32) (l : List UInt8) : BitVec 32 := ~~~ reg (~~~ s) l
def sum (l : List UInt8) : BitVec 32 := ext 0#32 l

theorem reg_append (r : BitVec 32) (a b : List UInt8) : reg r (a ++ b) = reg (reg r a) b := by simp [reg]
theorem ext_append (s : BitVec 32) (a b : List UInt8) : ext s (a ++ b) = ext (ext s a) b := by simp [ext, reg_append]
theorem sum_append (a b : List UInt8) : sum (a ++ b) = ext (sum a) b := ext_append _ _ _
theorem reg_inj (l : List UInt8) : ∀ {r r' : BitVec 32}, reg r l = reg r' l → r = r' := by
  induction l with
  | nil => intro r r' h; exact h
  | cons c l ih =>
    intro r r' h
    have h1 := ih (r := byte1 r c) (r' := byte1 r' c) h
    have h2 := bits_inj 8 h1
    have h3 : (r ^^^ low c) ^^^ low c = (r' ^^^ low c) ^^^ low c := by rw [h2]
    simpa [BitVec.xor_assoc] using h3

theorem bit1_shl (z : BitVec 32) (h : z.getLsbD 31 = false) : bit1 (z <<< 1) = z := by
  rw [bit1_even _ (by simp)]
  apply BitVec.eq_of_getLsbD_eq
  intro i hi
  simp only [BitVec.getLsbD_ushiftRight, BitVec.getLsbD_shiftLeft]
  by_cases h1 : 1 + i < 32
  · simp [h1, show ¬ (1 + i < 1) by omega]
  · obtain rfl : i = 31 := by omega
    have h' : z[31] = false := by simpa using h
    simp [h']
theorem bits_shl (k : Nat) : ∀ z : BitVec 32, z.toNat < 2 ^ (32 - k) → k ≤ 32 → bits k (z <<< k) = z := by
  induction k with
  | zero => intro z _ _; simp [bits]
  | succ k ih =>
    intro z h hk
    show bits k (bit1 (z <<< (k + 1))) = z
    have e : z <<< (k + 1) = (z <<< k) <<< 1 := by rw [BitVec.shiftLeft_add]
    rw [e, bit1_shl]
    · refine ih z (Nat.lt_of_lt_of_le h (Nat.pow_le_pow_right (by omega) (by omega))) (by omega)
    · simp only [BitVec.getLsbD_shiftLeft]
      by_cases h1 : 31 < k
      · simp [h1]
      · have : z.getLsbD (31 - k) = false := Nat.testBit_lt_two_pow (by
          rw [show 31 - k = 32 - (k + 1) by omega]; exact h)
        simp [this]

theorem low_lt (c : UInt8) : (low c).toNat < 256 := by
  have := c.toNat_lt
  unfold low
  rw [BitVec.toNat_ofNat]
  omega
theorem low_inj {a b : UInt8} (h : low a = low b) : a = b := by
  have := congrArg BitVec.toNat h
  unfold low at this
  simp only [BitVec.toNat_ofNat] at this
  have ha := a.toNat_lt
  have hb := b.toNat_lt
  exact UInt8.toNat_inj.1 (by omega)

/-- A byte behind m others: as if it had been put in at once, m bytes up. -/
theorem byte_up (m : Nat) (hm : 8 * m + 8 ≤ 32) (z : BitVec 32) (c : UInt8) : byte1 (bits (8 * m) z) c = bits (8 * (m + 1)) (z ^^^ (low c <<< (8 * m))) := by
  unfold byte1
  rw [show 8 * (m + 1) = 8 * m + 8 by omega, bits_add, bits_xor (8 * m), bits_shl (8 * m) (low c) (Nat.lt_of_lt_of_le (low_lt c) ?_) (by omega)]
  rw [show (256 : Nat) = 2 ^ 8 by rfl]
  exact Nat.pow_le_pow_right (by omega) (by omega)

/-- Up to four bytes as one word. -/
def word : Nat → List UInt8 → BitVec 32
  | _, [] => 0#32
  | m, c :: l => (low c <<< (8 * m)) ^^^ word (m + 1) l
theorem reg_word : ∀ (l : List UInt8) (m : Nat) (z : BitVec 32), m + l.length ≤ 4 → reg (bits (8 * m) z) l = bits (8 * (m + l.length)) (z ^^^ word m l)
  | [], m, z, _ => by simp [reg, word]
  | c :: l, m, z, h => by
    have hl : (c :: l).length = l.length + 1 := rfl
    rw [hl] at h
    show reg (byte1 (bits (8 * m) z) c) l = _
    rw [byte_up m (by omega), reg_word l (m + 1) _ (by omega), hl, word, BitVec.xor_assoc, show m + 1 + l.length = m + (l.length + 1) by omega]
theorem low_bit (c : UInt8) (i : Nat) (h : 8 ≤ i) : (low c).getLsbD i = false :=
  Nat.testBit_lt_two_pow (Nat.lt_of_lt_of_le (low_lt c) (by
    rw [show (256 : Nat) = 2 ^ 8 by rfl]; exact Nat.pow_le_pow_right (by omega) h))
theorem word_low : ∀ (l : List UInt8) (m i : Nat), i < 8 * m → (word m l).getLsbD i = false
  | [], m, i, _ => by simp [word]
  | c :: l, m, i, h => by
    simp only [word, BitVec.getLsbD_xor, BitVec.getLsbD_shiftLeft]
    rw [word_low l (m + 1) i (by omega)]
    simp [h]
theorem word_inj : ∀ (l l' : List UInt8) (m : Nat), l.length = l'.length → m + l.length ≤ 4 → word m l = word m l' → l = l'
  | [], [], _, _, _, _ => rfl
  | [], _ :: _, _, h, _, _ => by simp at h
  | _ :: _, [], _, h, _, _ => by simp at h
  | c :: l, d :: l', m, h, hm, he => by
    simp only [List.length_cons] at h hm
    have hc : c = d := by
      apply low_inj
      apply BitVec.eq_of_getLsbD_eq
      intro i hi
      by_cases h8 : i < 8
      · have := congrArg (fun z : BitVec 32 => z.getLsbD (8 * m + i)) he
        simp only [word, BitVec.getLsbD_xor, BitVec.getLsbD_shiftLeft] at this
        rw [word_low l (m + 1) _ (by omega), word_low l' (m + 1) _ (by omega)] at this
        simpa [show 8 * m + i < 32 by omega, show ¬ (8 * m + i < 8 * m) by omega, show 8 * m + i - 8 * m = i by omega] using this
      · rw [low_bit c i (by omega), low_bit d i (by omega)]
    subst hc
    have h2 : word (m + 1) l = word (m + 1) l' := by
      have e : (low c <<< (8 * m)) ^^^ ((low c <<< (8 * m)) ^^^ word (m + 1) l) = (low c <<< (8 * m)) ^^^ ((low c <<< (8 * m)) ^^^ word (m + 1) l') := by
        simp only [word] at he
        rw [he]
      rw [← BitVec.xor_assoc, ← BitVec.xor_assoc] at e
      simpa using e
    rw [word_inj l l' (m + 1) (by omega) (by omega) h2]

/-- A burst of at most four bytes changes the sum. -/
theorem burst (s : BitVec 32) (p x x' q : List UInt8) (hl : x.length = x'.length) (h4 : x.length ≤ 4) (he : ext s (p ++ x ++ q) = ext s (p ++ x' ++ q)) : x = x' := by
  have h1 : reg (~~~ s) (p ++ x ++ q) = reg (~~~ s) (p ++ x' ++ q) := by
    have := congrArg (fun z : BitVec 32 => ~~~ z) he
    simpa [ext] using this
  rw [reg_append, reg_append, reg_append, reg_append] at h1
  have h2 := reg_inj q h1
  have a := reg_word x 0 (reg (~~~ s) p) (by omega)
  have b := reg_word x' 0 (reg (~~~ s) p) (by omega)
  simp only [Nat.mul_zero, Nat.zero_add] at a b
  simp only [bits] at a b
  rw [a, b, ← hl] at h2
  have h3 := bits_inj _ h2
  have h4' : reg (~~~ s) p ^^^ (reg (~~~ s) p ^^^ word 0 x) = reg (~~~ s) p ^^^ (reg (~~~ s) p ^^^ word 0 x') := by rw [h3]
  rw [← BitVec.xor_assoc, ← BitVec.xor_assoc] at h4'
  exact word_inj x x' 0 hl (by omega) (by simpa using h4')
end Go.Proofs.YtffmekcpkilkoaaDoor.Crc
