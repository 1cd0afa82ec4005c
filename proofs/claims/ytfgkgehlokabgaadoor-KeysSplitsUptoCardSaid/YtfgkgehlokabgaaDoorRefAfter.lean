/-
  Walks over layer 2's reference: After, number.
-/
import Derived.Test.YtfgkgehlokabgaaDoorBackLaw
import Derived.Test.YtfgkgehlokabgaaDoorRefs
namespace Go.Proofs.YtfgkgehlokabgaaDoor
open Go.RowKit

set_option maxHeartbeats 2000000 in
theorem afterr_none (s : ByteArray) (k : Nat) (hl : s.data.toList = Ky.tops k) (hm : s.size ≤ 140737488355328) (w : World) :
    Calls Tryd.prog 13 #[.string s] w fun e w' => e = .returned (.tuple #[.string ⟨#[]⟩, .bool false]) ∧ Below w.heap.size w w' := by
  have hsz : s.size = k := by rw [← size_toList, hl]; simp [Ky.tops]
  have HL := Lib.hid hl
  have HZ := Lib.hid hsz
  clear hl hsz
  go_enter Tryd.func13, Tryd.ntmps13
  go_wp2
  go_loop [4] (fun i => ∃ (m : Nat) (z : Int), m ≤ s.size ∧ z + 1 = (m : Int) ∧ i = .int .i64 z) (fun i => (intOf i + 1).toNat)
  case atStart => exact ⟨s.size, (s.size : Int) - 1, Nat.le_refl _, by omega, by first | rfl | go_num⟩
  case round =>
    obtain ⟨m, z, hms, hz, rfl⟩ := hrel
    by_cases h0 : m = 0
    · subst h0
      obtain rfl : z = -1 := by omega
      go_wp2
      go_ret2
      exact ⟨rfl, Below.refl _ _⟩
    · obtain ⟨j, rfl⟩ : ∃ j, m = j + 1 := ⟨m - 1, by omega⟩
      obtain rfl : z = (j : Int) := by omega
      have hj : j < s.size := by omega
      have hj2 : (j : Int) < (s.size : Int) := by omega
      have hb : s[j]'hj = 255 := by
        have := byte_at s _ HL.out j hj
        rw [tops_get k j (by have := HZ.out; omega)] at this
        exact Option.some.inj this
      have hv : ((s[j]'hj).toNat : Int) = 255 := by rw [hb]; rfl
      have hi : 0 ≤ (j : Int) := by omega
      clear hb h0
      go_wp2
      go_round
      case rel => exact ⟨j, _, by omega, by omega, rfl⟩
      case measure => simp [intOf]
set_option maxRecDepth 100000 in
set_option maxHeartbeats 2000000 in
theorem afterr_some (s : ByteArray) (p : List UInt8) (c : UInt8) (k : Nat) (hc : c ≠ 255) (hl : s.data.toList = p ++ c :: Ky.tops k) (hm : s.size ≤ 140737488355328) (w : World) :
    Calls Tryd.prog 13 #[.string s] w fun e w' => e = .returned (.tuple #[.string ⟨(p ++ [c + 1]).toArray⟩, .bool true]) ∧ Below w.heap.size w w' := by
  have hsz : s.size = p.length + 1 + k := by rw [← size_toList, hl]; simp [Ky.tops]; omega
  have HL := Lib.hid hl
  have HZ := Lib.hid hsz
  have HC := Lib.hid hc
  have hps : p.length + 1 ≤ s.size := by omega
  clear hl hsz hc
  go_enter Tryd.func13, Tryd.ntmps13
  go_wp2
  go_loop [4] (fun i => ∃ (m : Nat) (z : Int), m ≤ s.size ∧ p.length + 1 ≤ m ∧ z + 1 = (m : Int) ∧ i = .int .i64 z) (fun i => (intOf i + 1).toNat)
  case atStart => exact ⟨s.size, (s.size : Int) - 1, Nat.le_refl _, hps, by omega, by first | rfl | go_num⟩
  case round =>
    obtain ⟨m, z, hms, hmp, hz, rfl⟩ := hrel
    obtain ⟨j, rfl⟩ : ∃ j, m = j + 1 := ⟨m - 1, by omega⟩
    obtain rfl : z = (j : Int) := by omega
    have hj : j < s.size := by omega
    have hj2 : (j : Int) < (s.size : Int) := by omega
    have hi : 0 ≤ (j : Int) := by omega
    by_cases h0 : p.length < j
    · have hb : s[j]'hj = 255 := by
        have := byte_at s _ HL.out j hj
        rw [List.getElem?_append_right (by omega)] at this
        obtain ⟨i, hi⟩ : ∃ i, j - p.length = i + 1 := ⟨j - p.length - 1, by omega⟩
        rw [hi, List.getElem?_cons_succ, tops_get k i (by have := HZ.out; omega)] at this
        exact Option.some.inj this
      have hv : ((s[j]'hj).toNat : Int) = 255 := by rw [hb]; rfl
      clear hb
      go_wp2
      go_round
      case rel => exact ⟨j, _, by omega, by omega, by omega, rfl⟩
      case measure => simp [intOf]
    · obtain rfl : j = p.length := by omega
      have hb : Hid (s[p.length]'hj = c) := by
        have := byte_at s _ HL.out p.length hj
        rw [List.getElem?_append_right (by omega), Nat.sub_self] at this
        exact Lib.hid (Option.some.inj this)
      have hd := succ_toNat c HC.out
      have hlt := c.toNat_lt
      have hd2 := (c + 1).toNat_lt
      obtain ⟨x, hx⟩ : ∃ x : Nat, Hid ((c + 1).toNat = x) := ⟨_, Lib.hid rfl⟩
      have hne : (((s[p.length]'hj).toNat : Int) != 255) = true := by
        rw [hb.out]
        exact bne_iff_ne.2 fun e => HC.out (UInt8.toNat_inj.1 (by show c.toNat = 255; omega))
      have hw1 : IntKind.u8.wrap (((s[p.length]'hj).toNat : Int) + 1) = (x : Int) := by
        rw [hb.out, IntKind.wrap_u8, ← hx.out, hd]
        omega
      have hcv := conv1_new w (c + 1) (x : Int) (by rw [hx.out])
      have hj3 : p.length ≤ s.size := by omega
      have hj4 : (p.length : Int) ≤ (s.size : Int) := by omega
      have hfin : Hid (s.extract 0 p.length ++ ⟨#[c + 1]⟩ = ⟨(p ++ [c + 1]).toArray⟩) := by
        have : s.extract 0 p.length ++ ⟨#[c + 1]⟩ = ⟨(p ++ [c + 1]).toArray⟩ := by
          apply Go.WideShapes.bytes_inj
          rw [ByteArray.data_append, Array.toList_append, Lib.extract_data, HL.out]
          simp
        exact Lib.hid this
      clear hd hlt hd2 h0 hmp hms hz
      go_wp2_with fail
      go_region
      clear hcv
      go_wp2_with fail
      go_ret2
      exact ⟨congrArg (fun t : ByteArray => Ending.returned (.tuple #[.string t, .bool true])) hfin.out, bd1 ((Below.refl _ _).alloc (Nat.le_refl _) _)⟩
theorem unbe_at (s : ByteArray) (l : List UInt8) (hl : s.data.toList = l) (i j : Nat) (h : i + j < s.size) : Ky.unbe ((l.drop i).take (j + 1)) = Ky.unbe ((l.drop i).take j) * 256 + (s[i + j]'h).toNat := by
  subst hl
  have h1 : j < (s.data.toList.drop i).length := by rw [List.length_drop, size_toList]; omega
  rw [List.take_succ_eq_append_getElem h1, Ky.unbe_snoc]
  congr 2
  rw [List.getElem_drop]
  rfl
set_option maxRecDepth 100000 in
set_option maxHeartbeats 2000000 in
theorem number_walk (s : ByteArray) (l : List UInt8) (hl : s.data.toList = l) (i : Nat) (hi : i + 8 ≤ s.size) (hs : s.size ≤ 1099511627776) (z : Int) (hz : Hid (z = (Ky.unbe ((l.drop i).take 8) : Int) - 9223372036854775808)) (w : World) :
    Calls Tryd.prog 20 #[.string s, .int .i64 (i : Int)] w fun e w' => e = .returned (.int .i64 z) ∧ w = w' := by
  have HL := Lib.hid hl
  clear hl
  go_enter Tryd.func20, Tryd.ntmps20
  go_wp2_with fail
  go_loop [5, 6] (fun n k => ∃ j X : Nat, j ≤ 8 ∧ k = .int .i64 ((i : Int) + (j : Int)) ∧ n = .int .u64 X ∧ Hid (X = Ky.unbe ((l.drop i).take j))) (fun _ k => (i + 8) - (intOf k).toNat)
  case atStart => exact ⟨0, 0, by omega, by go_num, rfl, Lib.hid rfl⟩
  case round =>
    obtain ⟨j, X, hj, rfl, rfl, hX⟩ := hrel
    by_cases hj8 : j < 8
    · have hjs : i + j < s.size := by omega
      have hjs2 : (i : Int) + (j : Int) < (s.size : Int) := by omega
      have hj9 : (i : Int) + (j : Int) < (i : Int) + 8 := by omega
      have hXb : (X : Int) ≤ 72057594037927935 := by have := unbe_bd (l.drop i) j (by omega); have := hX.out; omega
      have hb := (s[i + j]'hjs).toNat_lt
      have hn := Lib.hid (unbe_at s l HL.out i j hjs)
      have hor := or_byte X (s[i + j]'hjs).toNat (by omega) hb ((X : Int) * 256) _ rfl rfl
      have HOR := Lib.hid hor
      clear hor
      go_wp2_with fail
      exact ⟨⟨j + 1, X * 256 + (s[i + j]'hjs).toNat, by omega, congrArg (Value.int .i64) (by omega), congrArg (Value.int .u64) HOR.out, by rw [hn.out, ← hX.out]; exact Lib.hid rfl⟩, by simp [intOf]; omega⟩
    · have hj9 : ¬ (i : Int) + (j : Int) < (i : Int) + 8 := by omega
      obtain rfl : j = 8 := by omega
      have hXl : Hid (X < 18446744073709551616) := by rw [hX.out]; exact Lib.hid (unbe_bd8 _)
      obtain ⟨y, hy, hy2⟩ := num_wrap X hXl.out
      have HY : Hid (y = z) := by rw [hy2, hX.out, ← hz.out]; exact Lib.hid rfl
      clear hy2
      go_wp2_with fail
      go_ret
      exact ⟨congrArg (fun t : Int => Ending.returned (.int .i64 t)) HY.out, rfl⟩
end Go.Proofs.YtfgkgehlokabgaaDoor
