/-
  Walks over layer 7: get.
-/
import Derived.Test.YtffmekcpkilkoaaDoorPut
import Derived.Laws.BitsAllLaws
namespace Go.Proofs.YtffmekcpkilkoaaDoor
open Go.RowKit

/-- The number that the first k bytes tell, the low one first. -/
def getN (l : List UInt8) : Nat → Nat
  | 0 => 0
  | k + 1 => getN l k + (l.getD k 0).toNat * 2 ^ (8 * k)
theorem getN_lt (l : List UInt8) : ∀ k, getN l k < 2 ^ (8 * k)
  | 0 => by simp [getN]
  | k + 1 => by
    have h := getN_lt l k
    have hb := (l.getD k 0).toNat_lt
    have e : 2 ^ (8 * (k + 1)) = 2 ^ (8 * k) * 256 := by rw [Nat.mul_add, Nat.pow_add]
    show getN l k + (l.getD k 0).toNat * 2 ^ (8 * k) < _
    rw [e]
    have h2 : (l.getD k 0).toNat * 2 ^ (8 * k) ≤ 255 * 2 ^ (8 * k) := Nat.mul_le_mul_right _ (by omega)
    omega
theorem getN_or (l : List UInt8) (k : Nat) : getN l k ||| (l.getD k 0).toNat * 2 ^ (8 * k) = getN l (k + 1) := by
  have := Nat.two_pow_add_eq_or_of_lt (getN_lt l k) (l.getD k 0).toNat
  show _ = getN l k + (l.getD k 0).toNat * 2 ^ (8 * k)
  rw [Nat.or_comm, Nat.mul_comm, ← this, Nat.add_comm]

theorem byte_at {s : ByteArray} {l : List UInt8} (hl : s.data.toList = l) (k : Nat) (h : k < s.size) : s[k]'h = l.getD k 0 := by
  subst hl
  have h' : k < s.data.toList.length := by simpa using h
  rw [List.getD_eq_getElem?_getD, List.getElem?_eq_getElem h']
  exact (Array.getElem_toList (xs := s.data) (i := k) h).symm
theorem get_done (s : ByteArray) (l : List UInt8) (hl : s.data.toList = l) (k : Nat) (h : k < s.size) (h8 : k < 8) (X : Nat) (hX : getN l k = X) (V : Int) (hV : V = ((s[k]'h).toNat : Int) * 2 ^ (8 * k)) :
    bits .or .u64 (X : Int) V = ((getN l (k + 1) : Nat) : Int) := by
  have h1 := getN_lt l k
  have h2 := getN_lt l (k + 1)
  have h3 : (2 : Nat) ^ (8 * (k + 1)) ≤ 2 ^ 64 := Nat.pow_le_pow_right (by omega) (by omega)
  have h4 : (2 : Nat) ^ (8 * k) ≤ 2 ^ 64 := Nat.pow_le_pow_right (by omega) (by omega)
  have e : V = (((l.getD k 0).toNat * 2 ^ (8 * k) : Nat) : Int) := by rw [hV, byte_at hl k h, Int.natCast_mul, Int.natCast_pow]; rfl
  have h5 : (l.getD k 0).toNat * 2 ^ (8 * k) ≤ getN l (k + 1) := Nat.le_add_left _ _
  rw [e, ← hX, u64_or_nat _ _ (by omega) (by omega), getN_or]

set_option maxRecDepth 100000 in
set_option maxHeartbeats 4000000 in
theorem get_any (s : ByteArray) (l : List UInt8) (hl : s.data.toList = l) (n : Nat) (hn : n ≤ 8) (hlen : n ≤ s.size) (w : World) :
    Calls Tryd.prog 25 #[.string s, .int .i64 n] w fun e w' => e = .returned (.int .u64 (getN l n)) ∧ w = w' := by
  have HL := Lib.hid hl
  clear hl
  go_enter Tryd.func25, Tryd.ntmps25
  go_wp2
  go_loop [5, 8] (fun y i => ∃ k : Nat, k ≤ n ∧ i = .int .i64 k ∧ y = .int .u64 (getN l k)) (fun _ i => n - (intOf i).toNat)
  case atStart => exact ⟨0, by omega, rfl, rfl⟩
  case round =>
    obtain ⟨k, hk, rfl, rfl⟩ := hrel
    by_cases hkn : k < n
    · have hks : k < s.size := by omega
      have hks2 : (k : Int) < (s.size : Int) := by omega
      obtain ⟨X, hX⟩ : ∃ X, Hid (getN l k = X) := ⟨_, Lib.hid rfl⟩
      rw [hX.out]
      rcases (by omega : k = 0 ∨ k = 1 ∨ k = 2 ∨ k = 3 ∨ k = 4 ∨ k = 5 ∨ k = 6 ∨ k = 7) with rfl | rfl | rfl | rfl | rfl | rfl | rfl | rfl
      · have hb := (s[0]'hks).toNat_lt
        go_wp2
        exact ⟨⟨1, by omega, rfl, congrArg (Value.int .u64) (get_done s l HL.out 0 hks (by omega) X hX.out _ (by first | rfl | omega))⟩, by show n - 1 < n - 0; omega⟩
      · have hb := (s[1]'hks).toNat_lt
        go_wp2
        exact ⟨⟨2, by omega, rfl, congrArg (Value.int .u64) (get_done s l HL.out 1 hks (by omega) X hX.out _ (by first | rfl | omega))⟩, by show n - 2 < n - 1; omega⟩
      · have hb := (s[2]'hks).toNat_lt
        go_wp2
        exact ⟨⟨3, by omega, rfl, congrArg (Value.int .u64) (get_done s l HL.out 2 hks (by omega) X hX.out _ (by first | rfl | omega))⟩, by show n - 3 < n - 2; omega⟩
      · have hb := (s[3]'hks).toNat_lt
        go_wp2
        exact ⟨⟨4, by omega, rfl, congrArg (Value.int .u64) (get_done s l HL.out 3 hks (by omega) X hX.out _ (by first | rfl | omega))⟩, by show n - 4 < n - 3; omega⟩
      · have hb := (s[4]'hks).toNat_lt
        go_wp2
        exact ⟨⟨5, by omega, rfl, congrArg (Value.int .u64) (get_done s l HL.out 4 hks (by omega) X hX.out _ (by first | rfl | omega))⟩, by show n - 5 < n - 4; omega⟩
      · have hb := (s[5]'hks).toNat_lt
        go_wp2
        exact ⟨⟨6, by omega, rfl, congrArg (Value.int .u64) (get_done s l HL.out 5 hks (by omega) X hX.out _ (by first | rfl | omega))⟩, by show n - 6 < n - 5; omega⟩
      · have hb := (s[6]'hks).toNat_lt
        go_wp2
        exact ⟨⟨7, by omega, rfl, congrArg (Value.int .u64) (get_done s l HL.out 6 hks (by omega) X hX.out _ (by first | rfl | omega))⟩, by show n - 7 < n - 6; omega⟩
      · have hb := (s[7]'hks).toNat_lt
        go_wp2
        exact ⟨⟨8, by omega, rfl, congrArg (Value.int .u64) (get_done s l HL.out 7 hks (by omega) X hX.out _ (by first | rfl | omega))⟩, by show n - 8 < n - 7; omega⟩
    · obtain rfl : k = n := by omega
      clear hk hkn
      go_wp2
      go_ret
      exact ⟨rfl, rfl⟩
end Go.Proofs.YtffmekcpkilkoaaDoor
