/-
  Walks over layer 2: lives, After.
-/
import Derived.Test.YtfgkgehlokabgaaDoorSame
import Derived.BigRegion
namespace Go.Proofs.YtfgkgehlokabgaaDoor
open Go.RowKit

def L2 : Nat → PV := fun i => if i = 0 then ⟨false, 0, ⟨#[97]⟩⟩ else ⟨true, 1, ⟨#[]⟩⟩
theorem ks_L2 : ks L2 2 = [2, 97, 0, 1, 1, 128, 0, 0, 0, 0, 0, 0, 1] := by decide
theorem ks_L0 (L : Nat → PV) : ks L 0 = [] := rfl
theorem L2_ok (i : Nat) (_ : i < 2) : (L2 i).Ok := by
  unfold L2
  split
  · exact ⟨by decide, by decide, by decide⟩
  · exact ⟨by decide, by decide, by decide⟩
theorem slice_new (w : World) (t : TypeId) : SliceIs (w.alloc (.cells #[.bool false, .int .i64 0, .string ⟨#[97]⟩, .bool true, .int .i64 1, .string ⟨#[]⟩] t)) (w.alloc (.cells #[.bool false, .int .i64 0, .string ⟨#[97]⟩, .bool true, .int .i64 1, .string ⟨#[]⟩] t)).heap.size (some ⟨w.heap.size, 0, none⟩) 2 L2 := fun _ => by
  refine ⟨w.heap.size, 0, rfl, by simp, fun i hi => ?_⟩
  match i, hi with
  | 0, _ => refine ⟨?_, ?_, ?_⟩ <;> (rw [World.cell?_alloc_at _ _ _ _ rfl]; rfl)
  | 1, _ => refine ⟨?_, ?_, ?_⟩ <;> (rw [World.cell?_alloc_at _ _ _ _ rfl]; rfl)
theorem join_L2 (w : World) (g : Nat) (h : SliceIs w w.heap.size (some ⟨g, 0, none⟩) 2 L2) :
    Calls Tryd.prog 8 #[.slice (some ⟨g, 0, none⟩) 2 2] w fun e w' => e = .returned (.string ⟨#[2, 97, 0, 1, 1, 128, 0, 0, 0, 0, 0, 0, 1]⟩) ∧ Below w.heap.size w w' := by
  have := join_any (some ⟨g, 0, none⟩) 2 2 L2 (by omega) L2_ok (by rw [ks_L2]; decide) w h
  rwa [ks_L2] at this
theorem join_nil (ad : Option Addr) (cap : Nat) (w : World) :
    Calls Tryd.prog 8 #[.slice ad 0 cap] w fun e w' => e = .returned (.string ⟨#[]⟩) ∧ Below w.heap.size w w' :=
  join_any ad 0 cap L2 (by omega) (fun i hi => by omega) (by rw [ks_L0]; decide) w (fun h => absurd h (by omega))
set_option maxHeartbeats 2000000 in
theorem lives_any (w : World) :
    Calls Tryd.prog 6 #[] w fun e w' => e = .returned (.bool true) ∧ Below w.heap.size w w' := by
  go_enter Tryd.func6, Tryd.ntmps6
  go_wp2_with fail
  refine (text_any _ _).mono ?_
  rintro e w1 ⟨rfl, hb1⟩
  have HB1 := Lib.hid hb1
  clear hb1
  go_wp2_with fail
  refine (number_any _ _).mono ?_
  rintro e w2 ⟨rfl, hb2⟩
  have HB2 := Lib.hid (HB1.out.trans (hb2.mono HB1.out.size))
  clear hb2
  have HS := Lib.hid (slice_new w2 39)
  have HB3 := Lib.hid (HB2.out.alloc HB2.out.size (.cells #[.bool false, .int .i64 0, .string ⟨#[97]⟩, .bool true, .int .i64 1, .string ⟨#[]⟩] 39))
  go_wp2_with fail
  refine (join_L2 _ _ HS.out).mono ?_
  rintro e w3 ⟨rfl, hb3⟩
  have HB4 := Lib.hid (HB3.out.trans (hb3.mono HB3.out.size))
  clear hb3
  go_wp2_with fail
  refine (join_nil _ _ _).mono ?_
  rintro e w4 ⟨rfl, hb4⟩
  have HB5 := Lib.hid (HB4.out.trans (hb4.mono HB4.out.size))
  clear hb4
  go_wp2_with fail
  go_ret
  exact ⟨rfl, HB5.out⟩

theorem conv1 (w : World) (g : Nat) (a : UInt8) (cap : Nat) (h : w.cell? ⟨g, 0, none⟩ = some (.int .u8 (a.toNat : Int))) :
    (convert 45 9 (.slice (some ⟨g, 0, none⟩) 1 cap)).run Tryd.prog w = .ok (.string ⟨#[a]⟩) w := by
  refine run_convert_bytes_back _ 45 9 5 ⟨g, 0, none⟩ cap [a] Tryd.underlying45 Tryd.underlying5 Tryd.underlying9 ?_
  intro j hj
  match j, hj with
  | 0, _ => exact h
theorem conv1_new (w : World) (a : UInt8) (x : Int) (hx : (a.toNat : Int) = x) :
    (convert 45 9 (.slice (some ⟨w.heap.size, 0, none⟩) 1 1)).run Tryd.prog (w.alloc (.cells #[.int .u8 x] 5)).drew = .ok (.string ⟨#[a]⟩) (w.alloc (.cells #[.int .u8 x] 5)).drew := by
  subst hx
  exact conv1 _ _ a 1 (World.cell?_alloc_at (w := w) _ _ _ 0 rfl)
theorem bd1 {B : Nat} {a w : World} (h : Below B a w) : Below B a w.drew := ⟨h.os, h.tape, h.output, h.size, h.block⟩
theorem bdn {B : Nat} {a w : World} (h : Below B a w) (n : Nat) : Below B a (w.drewN n) := ⟨h.os, h.tape, h.output, h.size, h.block⟩
/-- Every text is either bytes 255 alone or has a last byte that isn't. -/
theorem tops_or (l : List UInt8) : (∃ k, l = Ky.tops k) ∨ ∃ p c k, c ≠ 255 ∧ l = p ++ c :: Ky.tops k := by
  induction l with
  | nil => exact .inl ⟨0, rfl⟩
  | cons a l ih =>
    rcases ih with ⟨k, rfl⟩ | ⟨p, c, k, hc, rfl⟩
    · by_cases h : a = 255
      · subst h; exact .inl ⟨k + 1, rfl⟩
      · exact .inr ⟨[], a, k, h, rfl⟩
    · exact .inr ⟨a :: p, c, k, hc, rfl⟩
theorem byte_at (s : ByteArray) (l : List UInt8) (hl : s.data.toList = l) (k : Nat) (h : k < s.size) : some (s[k]'h) = l[k]? := by
  subst hl
  have h' : k < s.data.toList.length := by simpa using h
  rw [List.getElem?_eq_getElem h']
  rfl
theorem tops_get (k i : Nat) (h : i < k) : (Ky.tops k)[i]? = some 255 := by
  unfold Ky.tops
  rw [List.getElem?_replicate, if_pos h]
set_option maxHeartbeats 2000000 in
theorem after_none (s : ByteArray) (k : Nat) (hl : s.data.toList = Ky.tops k) (hm : s.size ≤ 9223372036854775807) (w : World) :
    Calls Tryd.prog 12 #[.string s] w fun e w' => e = .returned (.tuple #[.string ⟨#[]⟩, .bool false]) ∧ Below w.heap.size w w' := by
  have hsz : s.size = k := by rw [← size_toList, hl]; simp [Ky.tops]
  have HL := Lib.hid hl
  have HZ := Lib.hid hsz
  clear hl hsz
  go_enter Tryd.func12, Tryd.ntmps12
  go_wp2
  go_loop [4] (fun i => ∃ m : Nat, m ≤ s.size ∧ i = .int .i64 m) (fun i => (intOf i).toNat)
  case atStart => exact ⟨s.size, Nat.le_refl _, rfl⟩
  case round =>
    obtain ⟨m, hms, rfl⟩ := hrel
    by_cases h0 : m = 0
    · subst h0
      go_wp2
      go_ret2
      exact ⟨rfl, Below.refl _ _⟩
    · obtain ⟨j, rfl⟩ : ∃ j, m = j + 1 := ⟨m - 1, by omega⟩
      have hj : j < s.size := by omega
      have hj2 : (j : Int) < (s.size : Int) := by omega
      have hb : s[j]'hj = 255 := by
        have := byte_at s _ HL.out j hj
        rw [tops_get k j (by have := HZ.out; omega)] at this
        exact Option.some.inj this
      have hv : ((s[j]'hj).toNat : Int) = 255 := by rw [hb]; rfl
      have hi : 0 < (j : Int) + 1 := by omega
      clear hb h0
      go_wp2
      go_round
      case rel => exact ⟨j, by omega, by go_num⟩
      case measure => simp [intOf]
theorem succ_toNat (c : UInt8) (hc : c ≠ 255) : (c + 1).toNat = c.toNat + 1 := by
  have h1 := c.toNat_lt
  have h2 : c.toNat ≠ 255 := fun e => hc (UInt8.toNat_inj.1 e)
  rw [UInt8.toNat_add]
  show (c.toNat + 1) % 256 = _
  omega
set_option maxRecDepth 100000 in
set_option maxHeartbeats 2000000 in
theorem after_some (s : ByteArray) (p : List UInt8) (c : UInt8) (k : Nat) (hc : c ≠ 255) (hl : s.data.toList = p ++ c :: Ky.tops k) (hm : s.size ≤ 140737488355328) (w : World) :
    Calls Tryd.prog 12 #[.string s] w fun e w' => e = .returned (.tuple #[.string ⟨(p ++ [c + 1]).toArray⟩, .bool true]) ∧ Below w.heap.size w w' := by
  have hsz : s.size = p.length + 1 + k := by rw [← size_toList, hl]; simp [Ky.tops]; omega
  have HL := Lib.hid hl
  have HZ := Lib.hid hsz
  have HC := Lib.hid hc
  have hps : p.length + 1 ≤ s.size := by omega
  clear hl hsz hc
  go_enter Tryd.func12, Tryd.ntmps12
  go_wp2
  go_loop [4] (fun i => ∃ m : Nat, m ≤ s.size ∧ p.length + 1 ≤ m ∧ i = .int .i64 m) (fun i => (intOf i).toNat)
  case atStart => exact ⟨s.size, Nat.le_refl _, hps, rfl⟩
  case round =>
    obtain ⟨m, hms, hmp, rfl⟩ := hrel
    obtain ⟨j, rfl⟩ : ∃ j, m = j + 1 := ⟨m - 1, by omega⟩
    have hj : j < s.size := by omega
    have hj2 : (j : Int) < (s.size : Int) := by omega
    have hi : 0 < (j : Int) + 1 := by omega
    by_cases h0 : p.length < j
    · have hb : s[j]'hj = 255 := by
        have := byte_at s _ HL.out j hj
        rw [List.getElem?_append_right (by omega)] at this
        obtain ⟨i, hi⟩ : ∃ i, j - p.length = i + 1 := ⟨j - p.length - 1, by omega⟩
        rw [hi, List.getElem?_cons_succ, tops_get k i (by have := HZ.out; omega)] at this
        exact Option.some.inj this
      have hv : ((s[j]'hj).toNat : Int) = 255 := by rw [hb]; rfl
      clear hb
      go_wp2
      go_round
      case rel => exact ⟨j, by omega, by omega, by go_num⟩
      case measure => simp [intOf]
    · obtain rfl : j = p.length := by omega
      have hb : Hid (s[p.length]'hj = c) := by
        have := byte_at s _ HL.out p.length hj
        rw [List.getElem?_append_right (by omega), Nat.sub_self] at this
        exact Lib.hid (Option.some.inj this)
      have hd := succ_toNat c HC.out
      have hlt := c.toNat_lt
      have hd2 := (c + 1).toNat_lt
      obtain ⟨x, hx⟩ : ∃ x : Nat, Hid ((c + 1).toNat = x) := ⟨_, Lib.hid rfl⟩
      have hne : (((s[p.length]'hj).toNat : Int) != 255) = true := by
        rw [hb.out]
        exact bne_iff_ne.2 fun e => HC.out (UInt8.toNat_inj.1 (by show c.toNat = 255; omega))
      have hw1 : IntKind.u8.wrap (((s[p.length]'hj).toNat : Int) + 1) = (x : Int) := by
        rw [hb.out, IntKind.wrap_u8, ← hx.out, hd]
        omega
      have hw2 : IntKind.i64.wrap ((p.length : Int) + 1 - 1) = (p.length : Int) := by rw [IntWalk.i64_in _ (by omega)]; omega
      have hcv := conv1_new w (c + 1) (x : Int) (by rw [hx.out])
      have hj3 : p.length ≤ s.size := by omega
      have hj4 : (p.length : Int) ≤ (s.size : Int) := by omega
      have hfin : Hid (s.extract 0 p.length ++ ⟨#[c + 1]⟩ = ⟨(p ++ [c + 1]).toArray⟩) := by
        have : s.extract 0 p.length ++ ⟨#[c + 1]⟩ = ⟨(p ++ [c + 1]).toArray⟩ := by
          apply Go.WideShapes.bytes_inj
          rw [ByteArray.data_append, Array.toList_append, Lib.extract_data, HL.out]
          simp
        exact Lib.hid this
      clear hd hlt hd2 h0 hmp hms
      go_wp2_with fail
      go_region
      clear hcv
      go_wp2_with fail
      go_ret2
      exact ⟨congrArg (fun t : ByteArray => Ending.returned (.tuple #[.string t, .bool true])) hfin.out, bd1 ((Below.refl _ _).alloc (Nat.le_refl _) _)⟩
end Go.Proofs.YtfgkgehlokabgaaDoor
