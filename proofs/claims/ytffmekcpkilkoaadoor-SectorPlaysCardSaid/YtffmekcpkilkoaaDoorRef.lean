/-
  Walks over layer 7's reference: number, Ends.
-/
import Derived.Test.YtffmekcpkilkoaaDoorLow
namespace Go.Proofs.YtffmekcpkilkoaaDoor
open Go.RowKit

set_option maxRecDepth 100000 in
set_option maxHeartbeats 2000000 in
theorem number_any (s : ByteArray) (l : List UInt8) (hl : s.data.toList = l) (hs : s.size = 8) (w : World) :
    Calls Tryd.prog 28 #[.string s] w fun e w' => e = .returned (.int .u64 (getN l 8)) ∧ w = w' := by
  have HL := Lib.hid hl
  have HS := Lib.hid hs
  clear hl hs
  go_enter Tryd.func28, Tryd.ntmps28
  go_wp2
  go_loop [3, 4] (fun x i => ∃ (k X : Nat) (z : Int), k ≤ 8 ∧ z + k = 7 ∧ i = .int .i64 z ∧ x = .int .u64 X ∧ Hid (X = getN (l.drop (8 - k)) k)) (fun _ i => (intOf i + 1).toNat)
  case atStart => exact ⟨0, 0, 7, by omega, by omega, rfl, rfl, Lib.hid rfl⟩
  case round =>
    obtain ⟨k, X, z, hk, hz, rfl, rfl, hX⟩ := hrel
    by_cases hk8 : k < 8
    · obtain ⟨zn, rfl⟩ : ∃ n : Nat, z = (n : Int) := ⟨z.toNat, by omega⟩
      have hzs : zn < s.size := by rw [HS.out]; omega
      have hzs2 : (zn : Int) < (s.size : Int) := by omega
      have hb := (s[zn]'hzs).toNat_lt
      have hx1 : (X : Int) ≤ 72057594037927935 := by
        have h1 := getN_lt (l.drop (8 - k)) k
        have h2 : (2 : Nat) ^ (8 * k) ≤ 2 ^ 56 := Nat.pow_le_pow_right (by omega) (by omega)
        have := hX.out
        omega
      have hnew : Hid (X * 256 + (s[zn]'hzs).toNat = getN (l.drop (8 - (k + 1))) (k + 1)) := by
        have e1 := getN_add (l.drop (8 - (k + 1))) 1 k
        rw [Nat.add_comm 1 k, List.drop_drop, show 8 - (k + 1) + 1 = 8 - k by omega, ← hX.out] at e1
        have e2 : getN (l.drop (8 - (k + 1))) 1 = (s[zn]'hzs).toNat := by
          show 0 + ((l.drop (8 - (k + 1))).getD 0 0).toNat * 2 ^ (8 * 0) = _
          rw [byte_at HL.out zn hzs, show (2 : Nat) ^ (8 * 0) = 1 from rfl]
          simp only [Nat.mul_one, Nat.zero_add, List.getD_eq_getElem?_getD, List.getElem?_drop, Nat.add_zero]
          rw [show 8 - (k + 1) = zn by omega]
        rw [e2] at e1
        have : X * 256 + (s[zn]'hzs).toNat = getN (l.drop (8 - (k + 1))) (k + 1) := by
          rw [e1, Nat.add_comm, show (2 : Nat) ^ (8 * 1) = 256 from rfl]
        exact Lib.hid this
      go_wp2
      go_round
      case rel => exact ⟨k + 1, X * 256 + (s[zn]'hzs).toNat, (zn : Int) - 1, by omega, by omega, rfl, congrArg (Value.int .u64) (by omega), hnew⟩
      case measure => simp [intOf]
    · obtain rfl : k = 8 := by omega
      obtain rfl : z = -1 := by omega
      have hX2 := hX.out
      rw [Nat.sub_self, List.drop_zero] at hX2
      have HX := Lib.hid hX2
      clear hX hX2 hz hk hk8
      go_wp2
      go_ret
      exact ⟨congrArg (fun t : Nat => Ending.returned (.int .u64 (t : Int))) HX.out, rfl⟩
set_option maxHeartbeats 2000000 in
theorem endsr_yes (s : ByteArray) (l : List UInt8) (hl : s.data.toList = l) (hs : s.size = 256) (w : World) :
    Calls Tryd.prog 16 #[.string s] w fun e w' => e = .returned (.tuple #[.int .u64 (getN l 8), .int .u64 (getN (l.drop 248) 8), .int .i64 0]) ∧ ∃ k, w' = w.drewN k := by
  have e1 : ((s.size : Int) != 256) = false := by rw [hs]; rfl
  have hll := size_list s l hl
  have g1 := fun n : Nat => quiet_of_left (number_any (s.extract 0 8) (l.take 8) (by have := extract_list s l hl 0 8 (by omega); simpa using this) (by simp [hs]) (w.drewN n))
  have g2 := fun n : Nat => quiet_of_left (number_any (s.extract 248 s.size) (l.drop 248) (by rw [extract_end, hl]) (by simp [hs]) (w.drewN n))
  rw [getN_take l 8 8 (Nat.le_refl _)] at g1
  have h1 : (248 : Int) ≤ (s.size : Int) := by omega
  have h2 : 248 ≤ s.size := by omega
  have h3 : (8 : Int) ≤ (s.size : Int) := by omega
  have h4 : 8 ≤ s.size := by omega
  clear hl hs hll
  go_enter Tryd.func16, Tryd.ntmps16
  go_wp2
  go_quiet ((go_at_call 28; first | with_reducible exact g1 _ | with_reducible exact g2 _))
  go_wp2
  refine bodyPost_ret (results_tmp3' rfl _ _ _) rfl ⟨rfl, _, rfl⟩
set_option maxHeartbeats 1000000 in
theorem endsr_form (s : ByteArray) (hs : s.size ≠ 256) (w : World) :
    Calls Tryd.prog 16 #[.string s] w fun e w' => e = .returned (.tuple #[.int .u64 0, .int .u64 0, .int .i64 7]) ∧ w = w' := by
  have e1 : ((s.size : Int) != 256) = true := bne_iff_ne.2 (by omega)
  clear hs
  go_enter Tryd.func16, Tryd.ntmps16
  go_wp2
  refine bodyPost_ret (results_tmp3' rfl _ _ _) rfl ⟨rfl, rfl⟩
set_option maxHeartbeats 1000000 in
theorem ends_form (s : ByteArray) (hs : s.size ≠ 256) (x : Value) (w : World) (hc : w.cell? ⟨2, 0, none⟩ = some x) :
    Calls Tryd.prog 15 #[.string s] w fun e w' => e = .returned (.tuple #[.int .u64 0, .int .u64 0, x]) ∧ ∃ k, w' = w.drewN k := by
  have e1 : ((s.size : Int) != 256) = true := bne_iff_ne.2 (by omega)
  clear hs
  go_enter Tryd.func15, Tryd.ntmps15
  go_wp2
  go_quiet (fail)
  go_wp2
  refine bodyPost_ret (results_tmp3' rfl _ _ _) rfl ⟨rfl, _, rfl⟩
set_option maxHeartbeats 1000000 in
theorem sealr_zero (s : ByteArray) (w : World) :
    Calls Tryd.prog 13 #[.int .u64 0, .string s] w fun e w' => e = .returned (.tuple #[.string ⟨#[]⟩, .int .i64 6]) ∧ Below w.heap.size w w' := by
  go_enter Tryd.func13, Tryd.ntmps13
  go_wp2
  go_ret2
  exact ⟨rfl, Below.refl _ _⟩
set_option maxHeartbeats 1000000 in
theorem sealr_long (stamp : Nat) (hs0 : 0 < stamp) (s : ByteArray) (hl : 234 < s.size) (w : World) :
    Calls Tryd.prog 13 #[.int .u64 stamp, .string s] w fun e w' => e = .returned (.tuple #[.string ⟨#[]⟩, .int .i64 3]) ∧ Below w.heap.size w w' := by
  have h1 : ((stamp : Int) == 0) = false := beq_eq_false_iff_ne.2 (by omega)
  have h2 : (234 : Int) < (s.size : Int) := by omega
  go_enter Tryd.func13, Tryd.ntmps13
  go_wp2
  go_ret2
  exact ⟨rfl, Below.refl _ _⟩
end Go.Proofs.YtffmekcpkilkoaaDoor
