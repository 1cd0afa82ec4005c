/-
  Walks over checks.Extend, checks.Sum and the reference's: each comes to the plain CRC-32C.
-/
import Derived.Test.YtffmekcpkilkoaaDoorProg
import Derived.Test.YtffmekcpkilkoaaDoorCrc
import Derived.WalkKit
import Derived.Below
import Derived.Lib.Hide
import Derived.IntWalk
import Derived.KernelRfl
import Derived.Laws.BitsAllLaws
import Derived.Outline
namespace Go.Proofs.YtffmekcpkilkoaaDoor
open Go.RowKit

namespace Crc
theorem toNat_lt (b : BitVec 32) : b.toNat < 4294967296 := b.isLt
theorem ones_bit : ∀ i : Fin 32, (4294967295#32).getLsbD i.val = true := by decide
theorem not_xor (b : BitVec 32) : (~~~b) = 4294967295#32 ^^^ b := by
  apply BitVec.eq_of_getLsbD_eq
  intro i hi
  rw [BitVec.getLsbD_xor, ones_bit ⟨i, hi⟩, BitVec.getLsbD_not]
  simp [hi]
theorem max_u32 : IntKind.u32.max = ((4294967295 : Nat) : Int) := by decide
theorem not_eq (b : BitVec 32) : Go.bits .xor .u32 IntKind.u32.max ((b.toNat : Nat) : Int) = (((~~~b).toNat : Nat) : Int) := by
  rw [max_u32, u32_xor_nat 4294967295 b.toNat (by omega) b.isLt, not_xor, BitVec.toNat_xor]
  rfl
theorem not_eq' (b : BitVec 32) : Go.bits .xor .u32 ((b.toNat : Nat) : Int) 4294967295 = (((~~~b).toNat : Nat) : Int) := by
  rw [show (4294967295 : Int) = ((4294967295 : Nat) : Int) from rfl, u32_xor_nat b.toNat 4294967295 b.isLt (by omega), not_xor, BitVec.toNat_xor, Nat.xor_comm]
  rfl
theorem low_eq (r : BitVec 32) (c : UInt8) : Go.bits .xor .u32 ((r.toNat : Nat) : Int) ((c.toNat : Nat) : Int) = (((r ^^^ low c).toNat : Nat) : Int) := by
  have hc := c.toNat_lt
  rw [u32_xor_nat _ _ r.isLt (by omega), BitVec.toNat_xor]
  congr 2
  unfold low
  rw [BitVec.toNat_ofNat]
  omega
theorem and_eq (y : BitVec 32) : Go.bits .and .u32 ((y.toNat : Nat) : Int) 15 = (((y &&& 15#32).toNat : Nat) : Int) := by
  have h := u32_and_nat y.toNat 15 y.isLt (by omega)
  rw [show ((15 : Nat) : Int) = 15 from rfl] at h
  rw [h, BitVec.toNat_and]
  rfl
theorem and_lt (y : BitVec 32) : (y &&& 15#32).toNat < 16 := by
  rw [BitVec.toNat_and]
  exact Nat.lt_of_le_of_lt Nat.and_le_right (by decide)
theorem nib_eq (y : BitVec 32) : Go.bits .xor .u32 (((y.toNat : Nat) : Int) / 16) ((tab.getD (y &&& 15#32).toNat 0 : Nat) : Int) = (((bits 4 y).toNat : Nat) : Int) := by
  have hlt := and_lt y
  have ht := tab_bits ⟨_, hlt⟩
  have htl : ∀ i : Fin 16, tab.getD i.val 0 < 4294967296 := by decide
  have e1 : ((y.toNat : Nat) : Int) / (16 : Int) = (((y >>> 4).toNat : Nat) : Int) := by
    rw [BitVec.toNat_ushiftRight, Nat.shiftRight_eq_div_pow]
    omega
  rw [e1, u32_xor_nat _ _ (y >>> 4).isLt (htl ⟨_, hlt⟩), nibble y, BitVec.toNat_xor]
  have e2 : (bits 4 (y &&& 15#32)).toNat = tab.getD (y &&& 15#32).toNat 0 := by
    have e3 : BitVec.ofNat 32 (y &&& 15#32).toNat = y &&& 15#32 := by simp
    have := congrArg BitVec.toNat ht
    dsimp only at this
    rw [e3, BitVec.toNat_ofNat, Nat.mod_eq_of_lt (htl ⟨_, hlt⟩)] at this
    exact this.symm
  rw [e2]
theorem bit_odd (y : BitVec 32) (h : y.toNat % 2 = 1) : Go.bits .xor .u32 (((y.toNat : Nat) : Int) / 2) 2197175160 = (((bit1 y).toNat : Nat) : Int) := by
  have h0 : y.getLsbD 0 = true := by
    show y.toNat.testBit 0 = true
    simp [Nat.testBit_zero, h]
  have e1 : ((y.toNat : Nat) : Int) / (2 : Int) = (((y >>> 1).toNat : Nat) : Int) := by
    rw [BitVec.toNat_ushiftRight, Nat.shiftRight_eq_div_pow]
    omega
  have h2 := u32_xor_nat (y >>> 1).toNat 2197175160 (y >>> 1).isLt (by omega)
  rw [show ((2197175160 : Nat) : Int) = 2197175160 from rfl] at h2
  rw [e1, h2]
  congr 1
  unfold bit1
  rw [h0, if_pos rfl, BitVec.toNat_xor]
  rfl
theorem bit_even (y : BitVec 32) (h : y.toNat % 2 = 0) : (((y.toNat : Nat) : Int) / 2) = (((bit1 y).toNat : Nat) : Int) := by
  have h0 : y.getLsbD 0 = false := by
    show y.toNat.testBit 0 = false
    simp [Nat.testBit_zero, h]
  rw [bit1_even y h0, BitVec.toNat_ushiftRight, Nat.shiftRight_eq_div_pow]
  omega
theorem bits_snoc (n : Nat) : ∀ x : BitVec 32, bits (n + 1) x = bit1 (bits n x) := by
  intro x
  rw [bits_add n 1]
  rfl
theorem reg_take (r : BitVec 32) (l : List UInt8) (k : Nat) (h : k < l.length) : reg r (l.take (k + 1)) = byte1 (reg r (l.take k)) l[k] := by
  rw [List.take_succ_eq_append_getElem h, reg_append]
  rfl
end Crc

def nibV : List Int := [0x00000000, 0x105ec76f, 0x20bd8ede, 0x30e349b1, 0x417b1dbc, 0x5125dad3, 0x61c69362, 0x7198540d, 0x82f63b78, 0x92a8fc17, 0xa24bb5a6, 0xb21572c9, 0xc38d26c4, 0xd3d3e1ab, 0xe330a81a, 0xf36e6f75]
theorem nibV_tab : ∀ i : Fin 16, nibV.getD i.val 0 = ((Crc.tab.getD i.val 0 : Nat) : Int) := by decide
/-- The table of nibbles in memory. -/
def Nibs (w : World) : Prop := ∀ i : Nat, i < 16 → w.cell? ⟨37, i, none⟩ = some (.int .u32 (nibV.getD i 0))
theorem Nibs.below {B : Nat} {w w' : World} (h : Nibs w) (hb : Below B w w') (hB : 37 < B) : Nibs w' := fun i hi => by
  rw [hb.cell hB]
  exact h i hi

theorem getD_bang (s : ByteArray) (k : Nat) (h : k < s.size) : s.data.toList[k]'(by simpa using h) = s[k] := rfl

set_option maxHeartbeats 1000000 in
theorem extend_any (b : BitVec 32) (s : ByteArray) (hs : s.size ≤ maxLen) (w : World) (hN : Nibs w) :
    Calls Tryd.prog 29 #[.int .u32 ((b.toNat : Nat) : Int), .string s] w fun e w' => e = .returned (.int .u32 (((Crc.ext b s.data.toList).toNat : Nat) : Int)) ∧ w = w' := by
  unfold maxLen at hs
  have hbl := Crc.toNat_lt b
  have hnot := Crc.not_eq b
  have hbl2 := Crc.toNat_lt (~~~b)
  obtain ⟨B1, hB1⟩ : ∃ B, B = (~~~b).toNat := ⟨_, rfl⟩
  rw [← hB1] at hnot hbl2
  have HB1 := Lib.hid hB1
  have HN := Lib.hid hN
  clear hN hB1
  go_enter Tryd.func29, Tryd.ntmps29
  go_wp2
  go_loop [0, 5] (fun r i => ∃ (k : Nat) (R : Nat), k ≤ s.size ∧ R < 4294967296 ∧ i = .int .i64 k ∧ r = .int .u32 (R : Int) ∧ Hid (R = (Crc.reg (~~~b) (s.data.toList.take k)).toNat)) (fun _ i => s.size - (intOf i).toNat)
  case atStart => exact ⟨0, _, Nat.zero_le _, hbl2, rfl, rfl, HB1⟩
  case round =>
    obtain ⟨k, R, hk, hR, rfl, rfl, HR⟩ := hrel
    clear hnot
    by_cases hlt : k < s.size
    · obtain ⟨r, hr⟩ : ∃ r, r = Crc.reg (~~~b) (s.data.toList.take k) := ⟨_, rfl⟩
      have hRr := HR.out
      rw [← hr] at hRr
      have hc := s[k].toNat_lt
      obtain ⟨y1, hy1⟩ : ∃ y, y = r ^^^ Crc.low s[k] := ⟨_, rfl⟩
      obtain ⟨y2, hy2⟩ : ∃ y, y = Crc.bits 4 y1 := ⟨_, rfl⟩
      have hfin : Hid ((Crc.bits 4 y2).toNat = (Crc.reg (~~~b) (s.data.toList.take (k + 1))).toNat) := Lib.hid (by
        rw [Crc.reg_take _ _ k (by simpa using hlt), ← hr]
        show _ = (Crc.bits 8 (r ^^^ Crc.low s[k])).toNat
        rw [← hy1, show 8 = 4 + 4 from rfl, Crc.bits_add, ← hy2])
      have e1 := Crc.low_eq r s[k]
      rw [← hRr, ← hy1] at e1
      have a1 := Crc.and_eq y1
      have n1 := Crc.and_lt y1
      have c1 := HN.out _ n1
      rw [nibV_tab ⟨_, n1⟩] at c1
      have t1 : ((Crc.tab.getD (y1 &&& 15#32).toNat 0 : Nat) : Int) < 4294967296 := by
        have : ∀ i : Fin 16, Crc.tab.getD i.val 0 < 4294967296 := by decide
        have := this ⟨_, n1⟩
        dsimp only at this
        omega
      have x1 := Crc.nib_eq y1
      rw [← hy2] at x1
      have l1 := Crc.toNat_lt y1
      have a2 := Crc.and_eq y2
      have n2 := Crc.and_lt y2
      have c2 := HN.out _ n2
      rw [nibV_tab ⟨_, n2⟩] at c2
      have t2 : ((Crc.tab.getD (y2 &&& 15#32).toNat 0 : Nat) : Int) < 4294967296 := by
        have : ∀ i : Fin 16, Crc.tab.getD i.val 0 < 4294967296 := by decide
        have := this ⟨_, n2⟩
        dsimp only at this
        omega
      have x2 := Crc.nib_eq y2
      have l2 := Crc.toNat_lt y2
      have l3 := Crc.toNat_lt (Crc.bits 4 y2)
      dsimp only at c1 c2
      generalize Crc.tab.getD (y1 &&& 15#32).toNat 0 = T1 at c1 x1 t1
      generalize Crc.tab.getD (y2 &&& 15#32).toNat 0 = T2 at c2 x2 t2
      generalize (y1 &&& 15#32).toNat = N1 at a1 n1 c1
      generalize (y2 &&& 15#32).toNat = N2 at a2 n2 c2
      generalize (Crc.bits 4 y2).toNat = Y3 at x2 l3 hfin
      generalize y1.toNat = Y1 at e1 a1 x1 l1
      generalize y2.toNat = Y2 at x1 a2 x2 l2
      clear hy1 hy2 hr hRr
      go_wp2
      go_round
      case rel => exact ⟨k + 1, Y3, by omega, l3, by go_num, rfl, hfin⟩
      case measure => simp [intOf]; omega
    · have hRr := HR.out
      rw [List.take_of_length_le (by simp; omega)] at hRr
      have hx := Crc.not_eq (Crc.reg (~~~b) s.data.toList)
      rw [← hRr] at hx
      obtain ⟨X, hX⟩ : ∃ X, X = (~~~Crc.reg (~~~b) s.data.toList).toNat := ⟨_, rfl⟩
      rw [← hX] at hx
      have HX : Hid (X = (Crc.ext b s.data.toList).toNat) := Lib.hid hX
      clear hRr hX
      go_wp2
      go_ret
      exact ⟨by rw [← HX.out]; rfl, rfl⟩

set_option maxHeartbeats 1000000 in
theorem extendr_any (b : BitVec 32) (s : ByteArray) (hs : s.size ≤ maxLen) (w : World) :
    Calls Tryd.prog 30 #[.int .u32 ((b.toNat : Nat) : Int), .string s] w fun e w' => e = .returned (.int .u32 (((Crc.ext b s.data.toList).toNat : Nat) : Int)) ∧ w = w' := by
  unfold maxLen at hs
  have hbl := Crc.toNat_lt b
  have hnot := Crc.not_eq' b
  have hbl2 := Crc.toNat_lt (~~~b)
  obtain ⟨B1, hB1⟩ : ∃ B, B = (~~~b).toNat := ⟨_, rfl⟩
  rw [← hB1] at hnot hbl2
  have HB1 := Lib.hid hB1
  clear hB1
  go_enter Tryd.func30, Tryd.ntmps30
  go_wp2
  go_loop [5, 6] (fun r i => ∃ (k : Nat) (R : Nat), k ≤ s.size ∧ R < 4294967296 ∧ i = .int .i64 k ∧ r = .int .u32 (R : Int) ∧ Hid (R = (Crc.reg (~~~b) (s.data.toList.take k)).toNat)) (fun _ i => s.size - (intOf i).toNat)
  case atStart => exact ⟨0, _, Nat.zero_le _, hbl2, rfl, rfl, HB1⟩
  case round =>
    obtain ⟨k, R, hk, hR, rfl, rfl, HR⟩ := hrel
    clear hnot
    by_cases hlt : k < s.size
    · obtain ⟨r, hr⟩ : ∃ r, r = Crc.reg (~~~b) (s.data.toList.take k) := ⟨_, rfl⟩
      have hRr := HR.out
      rw [← hr] at hRr
      have hc := s[k].toNat_lt
      obtain ⟨y1, hy1⟩ : ∃ y, y = r ^^^ Crc.low s[k] := ⟨_, rfl⟩
      have hfin : Hid ((Crc.bits 8 y1).toNat = (Crc.reg (~~~b) (s.data.toList.take (k + 1))).toNat) := Lib.hid (by
        rw [Crc.reg_take _ _ k (by simpa using hlt), ← hr]
        show _ = (Crc.bits 8 (r ^^^ Crc.low s[k])).toNat
        rw [← hy1])
      have e1 := Crc.low_eq r s[k]
      rw [← hRr, ← hy1] at e1
      have l1 := Crc.toNat_lt y1
      obtain ⟨Y1, hY1⟩ : ∃ Y, Y = y1.toNat := ⟨_, rfl⟩
      rw [← hY1] at e1 l1
      have HY1 : Hid (Y1 = (Crc.bits 0 y1).toNat) := Lib.hid hY1
      clear hY1 hy1 hr hRr
      go_wp2
      go_loop [5, 7] (fun z i => ∃ (j : Nat) (Z : Nat), j ≤ 8 ∧ Z < 4294967296 ∧ i = .int .i64 j ∧ z = .int .u32 (Z : Int) ∧ Hid (Z = (Crc.bits j y1).toNat)) (fun _ i => 8 - (intOf i).toNat)
      case atStart => exact ⟨0, Y1, by omega, l1, rfl, rfl, HY1⟩
      case round =>
        obtain ⟨j, Z, hj, hZ, rfl, rfl, HZ⟩ := hrel
        clear e1
        by_cases hj8 : j < 8
        · obtain ⟨y, hy⟩ : ∃ y, y = Crc.bits j y1 := ⟨_, rfl⟩
          have hZy := HZ.out
          rw [← hy] at hZy
          have hn : Hid ((Crc.bit1 y).toNat = (Crc.bits (j + 1) y1).toNat) := Lib.hid (by rw [Crc.bits_snoc, ← hy])
          have l2 := Crc.toNat_lt (Crc.bit1 y)
          obtain ⟨N, hN⟩ : ∃ N, N = (Crc.bit1 y).toNat := ⟨_, rfl⟩
          rw [← hN] at hn l2
          rcases Nat.mod_two_eq_zero_or_one Z with hm | hm
          · have he := Crc.bit_even y (by rw [← hZy]; exact hm)
            rw [← hZy, ← hN] at he
            have hm0 : ((Z : Int) % 2 == 1) = false := by rw [beq_eq_false_iff_ne]; omega
            clear hN hZy hy hm
            go_wp2
            go_round
            case rel => exact ⟨j + 1, N, by omega, l2, by go_num, by first | rfl | (rw [he]) | (simp only [he]), hn⟩
            case measure => simp [intOf]; omega
          · have he := Crc.bit_odd y (by rw [← hZy]; exact hm)
            rw [← hZy, ← hN] at he
            have hm0 : ((Z : Int) % 2 == 1) = true := by rw [beq_iff_eq]; omega
            clear hN hZy hy hm
            go_wp2
            go_round
            case rel => exact ⟨j + 1, N, by omega, l2, by go_num, by first | rfl | (rw [he]) | (simp only [he]), hn⟩
            case measure => simp [intOf]; omega
        · obtain rfl : j = 8 := by omega
          have hfin2 : Hid (Z = (Crc.reg (~~~b) (s.data.toList.take (k + 1))).toNat) := Lib.hid (HZ.out.trans hfin.out)
          go_wp2
          go_round
          case rel => exact ⟨k + 1, Z, by omega, hZ, by go_num, rfl, hfin2⟩
          case measure => simp [intOf]; omega
    · have hRr := HR.out
      rw [List.take_of_length_le (by simp; omega)] at hRr
      have hx := Crc.not_eq' (Crc.reg (~~~b) s.data.toList)
      rw [← hRr] at hx
      obtain ⟨X, hX⟩ : ∃ X, X = (~~~Crc.reg (~~~b) s.data.toList).toNat := ⟨_, rfl⟩
      rw [← hX] at hx
      have HX : Hid (X = (Crc.ext b s.data.toList).toNat) := Lib.hid hX
      clear hRr hX
      go_wp2
      go_ret
      exact ⟨by rw [← HX.out]; rfl, rfl⟩
theorem sum_any (s : ByteArray) (hs : s.size ≤ maxLen) (w : World) (hN : Nibs w) :
    Calls Tryd.prog 23 #[.string s] w fun e w' => e = .returned (.int .u32 (((Crc.sum s.data.toList).toNat : Nat) : Int)) ∧ w = w' := by
  go_enter Tryd.func23, Tryd.ntmps23
  go_wp2_with (go_at_call 29; refine (extend_any 0#32 s hs _ (by exact hN)).mono ?_; rintro e w' ⟨rfl, rfl⟩)
  go_ret
  exact ⟨rfl, rfl⟩
theorem sumr_any (s : ByteArray) (hs : s.size ≤ maxLen) (w : World) :
    Calls Tryd.prog 27 #[.string s] w fun e w' => e = .returned (.int .u32 (((Crc.sum s.data.toList).toNat : Nat) : Int)) ∧ w = w' := by
  go_enter Tryd.func27, Tryd.ntmps27
  go_wp2_with (go_at_call 30; refine (extendr_any 0#32 s hs _).mono ?_; rintro e w' ⟨rfl, rfl⟩)
  go_ret
  exact ⟨rfl, rfl⟩
end Go.Proofs.YtffmekcpkilkoaaDoor
