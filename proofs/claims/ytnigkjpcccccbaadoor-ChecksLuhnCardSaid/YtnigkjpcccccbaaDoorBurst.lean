/-
  Plain facts on a burst (no program in it): up to four neighbouring bytes turned.
-/
import Derived.Test.YtnigkjpcccccbaaDoorCrc
namespace Go.Proofs.YtnigkjpcccccbaaDoor.Crc

/-- Byte k of a word. -/
def wbyte (u k : Nat) : UInt8 := UInt8.ofNat (u / 2 ^ (8 * k) % 256)
/-- The text behind k rounds. -/
def turned (l : List UInt8) (at' u : Nat) : Nat → List UInt8
  | 0 => l
  | k + 1 => (turned l at' u k).set (at' + k) ((turned l at' u k).getD (at' + k) 0 ^^^ wbyte u k)
/-- Was a byte turned by one that isn't 0? -/
def unlike (u : Nat) : Nat → Bool
  | 0 => false
  | k + 1 => unlike u k || (wbyte u k != 0)
theorem turned_length (l : List UInt8) (at' u : Nat) : ∀ k, (turned l at' u k).length = l.length
  | 0 => rfl
  | k + 1 => by simp [turned, turned_length l at' u k]
theorem u8_xor_eq (a b : UInt8) : (a ^^^ b = a) ↔ b = 0 := by
  constructor
  · intro h
    have : a ^^^ (a ^^^ b) = a ^^^ a := by rw [h]
    rw [← UInt8.xor_assoc] at this
    simpa using this
  · rintro rfl; simp
theorem turned_parts (l : List UInt8) (at' u : Nat) : ∀ k, at' + k ≤ l.length →
    ∃ p x x' q, l = p ++ x ++ q ∧ turned l at' u k = p ++ x' ++ q ∧ p.length = at' ∧ x.length = k ∧ x'.length = k ∧ ((x = x') ↔ unlike u k = false)
  | 0, h => ⟨l.take at', [], [], l.drop at', by simp, by simp [turned], by simp; omega, rfl, rfl, by simp [unlike]⟩
  | k + 1, h => by
    obtain ⟨p, x, x', q, e1, e2, hp, hx, hx', hiff⟩ := turned_parts l at' u k (by omega)
    have hq : q ≠ [] := fun e => by
      subst e
      have := congrArg List.length e1
      simp at this
      omega
    obtain ⟨c, q, rfl⟩ : ∃ c q', q = c :: q' := by cases q with | nil => exact absurd rfl hq | cons c q => exact ⟨c, q, rfl⟩
    have hlen : (p ++ x').length = at' + k := by simp [hp, hx']
    refine ⟨p, x ++ [c], x' ++ [c ^^^ wbyte u k], q, by simp [e1], ?_, hp, by simp [hx], by simp [hx'], ?_⟩
    · simp only [turned, e2]
      have hg : (p ++ x' ++ c :: q).getD (at' + k) 0 = c := by
        rw [List.getD_eq_getElem?_getD, List.getElem?_append_right (by omega), hlen]
        simp
      rw [hg, List.set_append_right (at' + k) _ (by omega), hlen]
      simp
    · have : (x ++ [c] = x' ++ [c ^^^ wbyte u k]) ↔ (x = x' ∧ c = c ^^^ wbyte u k) := by
        constructor
        · intro e
          have := List.append_inj e (by omega)
          exact ⟨this.1, by simpa using this.2⟩
        · rintro ⟨h1, h2⟩; rw [h1, ← h2]
      rw [this, hiff]
      simp only [unlike, Bool.or_eq_false_iff, bne_eq_false_iff_eq]
      rw [show (c = c ^^^ wbyte u k) ↔ wbyte u k = 0 from ⟨fun e => (u8_xor_eq c _).1 e.symm, fun e => ((u8_xor_eq c _).2 e).symm⟩]
theorem burst_sum (l : List UInt8) (at' u k : Nat) (hk : k ≤ 4) (h : at' + k ≤ l.length) : (sum l ≠ sum (turned l at' u k)) ↔ unlike u k = true := by
  obtain ⟨p, x, x', q, e1, e2, hp, hx, hx', hiff⟩ := turned_parts l at' u k h
  cases hu : unlike u k
  · have e := hiff.2 hu
    rw [e2, ← e, ← e1]
    simp
  · have hne : x ≠ x' := fun e => by rw [hiff.1 e] at hu; cases hu
    simp only [iff_true]
    intro e
    rw [e2] at e
    conv at e => lhs; rw [e1]
    exact hne (burst 0#32 p x x' q (by omega) (by omega) e)
end Go.Proofs.YtnigkjpcccccbaaDoor.Crc
