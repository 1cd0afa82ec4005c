/-
  Walks over statements of layer 3, more: slips.
-/
import Derived.Test.YtnigkjpcccccbaaDoorLaws3
import Derived.Test.YtnigkjpcccccbaaDoorSlip
namespace Go.Proofs.YtnigkjpcccccbaaDoor
open Go.RowKit

/-- m: empty, or l with byte number i made c (another one of the same kind). -/
def OneOf (l : List UInt8) (i : Nat) (c : UInt8) (m : List UInt8) : Prop := m = [] ∨ ∃ p a q, l = p ++ a :: q ∧ p.length = i ∧ a ≠ c ∧ Chk.cls a = Chk.cls c ∧ m = p ++ c :: q
/-- m: empty, or l with byte number i and the one behind it exchanged (unlike ones of the same kind). -/
def TwoOf (l : List UInt8) (i : Nat) (m : List UInt8) : Prop := m = [] ∨ ∃ p a b q, l = p ++ a :: b :: q ∧ p.length = i ∧ a ≠ b ∧ Chk.cls a = Chk.cls b ∧ m = p ++ b :: a :: q
theorem OneOf.length {l m : List UInt8} {i : Nat} {c : UInt8} (h : OneOf l i c m) : m.length ≤ l.length := by
  rcases h with rfl | ⟨p, a, q, rfl, _, _, _, rfl⟩ <;> simp
theorem TwoOf.length {l m : List UInt8} {i : Nat} (h : TwoOf l i m) : m.length ≤ l.length := by
  rcases h with rfl | ⟨p, a, b, q, rfl, _, _, _, rfl⟩ <;> simp
theorem OneOf.unfit {l m : List UInt8} {i : Nat} {c : UInt8} (h : OneOf l i c m) (hf : Chk.fits l = true) : Chk.fits m = false := by
  rcases h with rfl | ⟨p, a, q, rfl, _, hne, hc, rfl⟩
  · rfl
  · exact Chk.slip_one p q a c hf hne hc
theorem TwoOf.unfit {l m : List UInt8} {i : Nat} (h : TwoOf l i m) (hf : Chk.fits l = true) : Chk.fits m = false := by
  rcases h with rfl | ⟨p, a, b, q, rfl, _, hne, hc, rfl⟩
  · rfl
  · exact Chk.slip_two p q a b hf hne hc
theorem get_data {s : ByteArray} {l : List UInt8} (hl : s.data.toList = l) (i : Nat) (h : i < s.size) (hi : i < l.length) : s[i]'h = l[i]'hi := by
  subst hl
  exact (Array.getElem_toList (xs := s.data) (i := i) h).symm
theorem one_data (s : ByteArray) (i : Nat) (c : UInt8) : (oneStr s i c).data.toList = s.data.toList.take i ++ c :: s.data.toList.drop (i + 1) := by
  unfold oneStr
  rw [cat_data (cat_data (Lib.extract_data s 0 i) rfl) (extract_end s (i + 1))]
  simp
theorem two_data (s : ByteArray) (i : Nat) (b a : UInt8) : (twoStr s i b a).data.toList = s.data.toList.take i ++ b :: a :: s.data.toList.drop (i + 2) := by
  unfold twoStr
  rw [cat_data (cat_data (Lib.extract_data s 0 i) rfl) (extract_end s (i + 2))]
  simp
theorem one_of (s : ByteArray) (l : List UInt8) (hl : s.data.toList = l) (i : Nat) (h : i < s.size) (c : UInt8) (hne : c ≠ s[i]'h) (hc : Chk.cls c = Chk.cls (s[i]'h)) : OneOf l i c (oneStr s i c).data.toList := by
  have hn := size_of_data hl
  have hi : i < l.length := by omega
  rw [get_data hl i h hi] at hne hc
  refine Or.inr ⟨l.take i, l[i], l.drop (i + 1), ?_, by simp; omega, hne.symm, hc.symm, by rw [one_data, hl]⟩
  rw [List.getElem_cons_drop, List.take_append_drop]
theorem two_of (s : ByteArray) (l : List UInt8) (hl : s.data.toList = l) (i : Nat) (h : i < s.size) (h1 : i + 1 < s.size) (hne : s[i]'h ≠ s[i + 1]'h1) (hc : Chk.cls (s[i]'h) = Chk.cls (s[i + 1]'h1)) : TwoOf l i (twoStr s i (s[i + 1]'h1) (s[i]'h)).data.toList := by
  have hn := size_of_data hl
  have hi : i < l.length := by omega
  have hi1 : i + 1 < l.length := by omega
  rw [get_data hl i h hi, get_data hl (i + 1) h1 hi1] at *
  refine Or.inr ⟨l.take i, l[i], l[i + 1], l.drop (i + 2), ?_, by simp; omega, hne, hc, by rw [two_data, hl]⟩
  rw [List.getElem_cons_drop, List.getElem_cons_drop, List.take_append_drop]

theorem slip_any (s : ByteArray) (l : List UInt8) (hl : s.data.toList = l) (hs : s.size ≤ 1000000000000000) (i : Nat) (h : i < s.size) (c : UInt8) (w : World) :
    Calls Tryd.prog 23 #[.string s, .int .i64 i, .int .u8 (c.toNat : Int)] w fun e w' => (∃ S1 S2, e = .returned (.tuple #[.string S1, .string S2]) ∧ OneOf l i c S1.data.toList ∧ TwoOf l i S2.data.toList) ∧ Below w.heap.size w w' := by
  have n1 : OneOf l i c (⟨#[]⟩ : ByteArray).data.toList := Or.inl rfl
  have n2 : TwoOf l i (⟨#[]⟩ : ByteArray).data.toList := Or.inl rfl
  by_cases hA : c = s[i]'h
  · by_cases hi : i + 1 < s.size
    · by_cases hB : s[i]'h = s[i + 1]'hi
      · exact (slip_23 s hs i h c w hA _ (Lib.hid rfl) hi hB).mono fun e w' ⟨he, hb⟩ => ⟨⟨_, _, he, n1, n2⟩, hb⟩
      · by_cases hc : Chk.cls (s[i]'h) = Chk.cls (s[i + 1]'hi)
        · exact (slip_21 s hs i h c w hA _ (Lib.hid rfl) hi hB (Lib.hid hc.symm)).mono fun e w' ⟨he, hb⟩ => ⟨⟨_, _, he, n1, two_of s l hl i h hi hB hc⟩, hb⟩
        · exact (slip_24 s hs i h c w hA _ (Lib.hid rfl) hi hB _ (Lib.hid rfl) hc).mono fun e w' ⟨he, hb⟩ => ⟨⟨_, _, he, n1, n2⟩, hb⟩
    · exact (slip_22 s hs i h c w hA _ (Lib.hid rfl) (by omega)).mono fun e w' ⟨he, hb⟩ => ⟨⟨_, _, he, n1, n2⟩, hb⟩
  · by_cases hk : Chk.cls c = Chk.cls (s[i]'h)
    · have o1 := one_of s l hl i h c hA hk
      by_cases hi : i + 1 < s.size
      · by_cases hB : s[i]'h = s[i + 1]'hi
        · exact (slip_13 s hs i h c w hA _ (Lib.hid hk) (Lib.hid rfl) hi hB).mono fun e w' ⟨he, hb⟩ => ⟨⟨_, _, he, o1, n2⟩, hb⟩
        · by_cases hc : Chk.cls (s[i]'h) = Chk.cls (s[i + 1]'hi)
          · exact (slip_11 s hs i h c w hA _ (Lib.hid hk) (Lib.hid rfl) hi hB (Lib.hid hc.symm)).mono fun e w' ⟨he, hb⟩ => ⟨⟨_, _, he, o1, two_of s l hl i h hi hB hc⟩, hb⟩
          · exact (slip_14 s hs i h c w hA _ (Lib.hid hk) (Lib.hid rfl) hi hB _ (Lib.hid rfl) hc).mono fun e w' ⟨he, hb⟩ => ⟨⟨_, _, he, o1, n2⟩, hb⟩
      · exact (slip_12 s hs i h c w hA _ (Lib.hid hk) (Lib.hid rfl) (by omega)).mono fun e w' ⟨he, hb⟩ => ⟨⟨_, _, he, o1, n2⟩, hb⟩
    · by_cases hi : i + 1 < s.size
      · by_cases hB : s[i]'h = s[i + 1]'hi
        · exact (slip_33 s hs i h c w hA _ _ (Lib.hid rfl) (Lib.hid rfl) hk hi hB).mono fun e w' ⟨he, hb⟩ => ⟨⟨_, _, he, n1, n2⟩, hb⟩
        · by_cases hc : Chk.cls (s[i]'h) = Chk.cls (s[i + 1]'hi)
          · exact (slip_31 s hs i h c w hA _ _ (Lib.hid rfl) (Lib.hid rfl) hk hi hB (Lib.hid hc.symm)).mono fun e w' ⟨he, hb⟩ => ⟨⟨_, _, he, n1, two_of s l hl i h hi hB hc⟩, hb⟩
          · exact (slip_34 s hs i h c w hA _ _ (Lib.hid rfl) (Lib.hid rfl) hk hi hB _ (Lib.hid rfl) hc).mono fun e w' ⟨he, hb⟩ => ⟨⟨_, _, he, n1, n2⟩, hb⟩
      · exact (slip_32 s hs i h c w hA _ _ (Lib.hid rfl) (Lib.hid rfl) hk (by omega)).mono fun e w' ⟨he, hb⟩ => ⟨⟨_, _, he, n1, n2⟩, hb⟩

set_option maxRecDepth 100000 in
set_option maxHeartbeats 2000000 in
theorem slips_in (s : ByteArray) (l : List UInt8) (hl : s.data.toList = l) (hs : s.size ≤ 150000000000000) (p : Int) (c : UInt8) (t : TypeId) (x : Value) (w : World) (hG : Glob w.heap.size w t x) (hv : Chk.valid l = false) :
    Calls Tryd.prog 7 #[.string s, .int .i64 p, .int .u8 (c.toNat : Int)] w fun e w' => e = .returned (.bool true) ∧ Below w.heap.size w w' := by
  have HL := Lib.hid hl
  have HG := Lib.hid hG
  have HSk := Lib.hid (show s.size ≤ 1000000000000000 by omega)
  have HV := Lib.hid hv
  clear hl hG hv
  go_enter Tryd.func7, Tryd.ntmps7
  go_wp2_with fail
  refine (lives_any _ _ _ _ HG.out).mono ?_
  rintro e w1 ⟨rfl, hb1⟩
  have HB := Lib.hid hb1
  have HG1 := Lib.hid (HG.out.below hb1)
  clear hb1
  go_wp2_with fail
  refine (digits_no _ _ HL.out HSk.out HV.out _ _ _ HG1.out.err).mono ?_
  rintro e w2 ⟨rfl, n, rfl⟩
  go_wp2
  go_ret
  exact ⟨rfl, below_drewN HB.out _⟩

set_option maxRecDepth 100000 in
set_option maxHeartbeats 2000000 in
theorem slips_va (s : ByteArray) (l : List UInt8) (hl : s.data.toList = l) (hs : s.size ≤ 150000000000000) (p : Int) (c : UInt8) (t : TypeId) (x : Value) (w : World) (hG : Glob w.heap.size w t x) (hv : Chk.valid l = true) :
    Calls Tryd.prog 7 #[.string s, .int .i64 p, .int .u8 (c.toNat : Int)] w fun e w' => e = .returned (.bool true) ∧ Below w.heap.size w w' := by
  have hnm : ∀ W : World, (binOp .neq 31 .nilIface .nilIface).run Tryd.prog W = .ok (.bool false) W := fun W => by kernel_rfl
  have hclt := c.toNat_lt
  have hnl := size_of_data hl
  have hpos : 0 < s.size := by
    rcases Nat.eq_zero_or_pos s.size with h | h
    · have : l = [] := List.eq_nil_of_length_eq_zero (by omega)
      subst this
      cases hv
    · exact h
  have HL := Lib.hid hl
  have HG := Lib.hid hG
  have HSk := Lib.hid (show s.size ≤ 1000000000000000 by omega)
  have HV := Lib.hid hv
  have hds : (dstr l).size ≤ 2 := Nat.le_of_eq (dstr_size l)
  obtain ⟨s2, hs2⟩ : ∃ s2, s2 = s ++ dstr l := ⟨_, rfl⟩
  have HL2 : Hid (s2.data.toList = l ++ Chk.digits l) := Lib.hid (by rw [hs2]; exact cat_data hl (dstr_data l))
  have hsz2 : s2.size = s.size + 2 := by rw [hs2, ByteArray.size_append, dstr_size]
  have HS2 : Hid (s2.size ≤ 1000000000000000) := Lib.hid (by omega)
  have HF2 := Lib.hid (Chk.fits_digits l hv)
  have hs3 : (3 : Int) ≤ (s.size : Int) + ((dstr l).size : Int) := by rw [dstr_size]; omega
  obtain ⟨i, hi, hwp⟩ := place_of p s2.size (by omega) (by omega)
  have HI := Lib.hid hi
  have HP := Lib.hid hwp
  have HE := Lib.hid hs2
  have hs5 : ¬ s2.size = 0 := by omega
  have hs6 : s2.size ≤ 1000000000000000 := by omega
  clear hl hG hv hsz2 hi hwp hs2 hnl
  go_enter Tryd.func7, Tryd.ntmps7
  go_wp2_with fail
  refine (lives_any _ _ _ _ HG.out).mono ?_
  rintro e w1 ⟨rfl, hb1⟩
  have HB := Lib.hid hb1
  have HG1 := Lib.hid (HG.out.below hb1)
  clear hb1
  go_wp2_with fail
  refine (digits_yes _ _ HL.out HSk.out HV.out _ _ HG1.out.err).mono ?_
  rintro e w2 ⟨rfl, hb1⟩
  have HB2 := Lib.hid (HB.out.trans (hb1.mono HB.out.size))
  have HG2 := Lib.hid (HG.out.below HB2.out)
  clear hb1 HB HG1
  go_wp2_with fail
  rw [← HE.out]
  refine (fits_any _ _ HL2.out HS2.out _ _ _ (by exact HG2.out.err)).mono ?_
  rintro e w3 ⟨rfl, hb1⟩
  rw [HF2.out]
  have HB3 := Lib.hid (HB2.out.trans (hb1.mono HB2.out.size))
  have HG3 := Lib.hid (HG.out.below HB3.out)
  clear hb1 HB2 HG2
  go_wp2_with fail
  rw [HP.out]
  refine (slip_any s2 _ HL2.out HS2.out i HI.out c _).mono ?_
  rintro e w4 ⟨⟨S1, S2, rfl, h1, h2⟩, hb1⟩
  have HN2 := Lib.hid (size_of_data HL2.out)
  have HK1 := Lib.hid (show S1.size ≤ 1000000000000000 by
    have := h1.length
    have e1 := HS2.out
    have e2 := HN2.out
    have e3 := size_of_data (s := S1) rfl
    omega)
  have HK2 := Lib.hid (show S2.size ≤ 1000000000000000 by
    have := h2.length
    have e1 := HS2.out
    have e2 := HN2.out
    have e3 := size_of_data (s := S2) rfl
    omega)
  have HU1 := Lib.hid (h1.unfit HF2.out)
  have HU2 := Lib.hid (h2.unfit HF2.out)
  have HB4 := Lib.hid (HB3.out.trans (hb1.mono HB3.out.size))
  have HG4 := Lib.hid (HG.out.below HB4.out)
  clear hb1 HB3 HG3 h1 h2
  go_wp2_with fail
  refine (fits_any _ _ rfl HK1.out _ _ _ (by exact HG4.out.err)).mono ?_
  rintro e w5 ⟨rfl, hb1⟩
  rw [HU1.out]
  have HB5 := Lib.hid (HB4.out.trans (hb1.mono HB4.out.size))
  have HG5 := Lib.hid (HG.out.below HB5.out)
  clear hb1 HB4 HG4
  go_wp2_with fail
  refine (fits_any _ _ rfl HK2.out _ _ _ (by exact HG5.out.err)).mono ?_
  rintro e w6 ⟨rfl, hb1⟩
  rw [HU2.out]
  go_wp2
  go_ret
  exact ⟨rfl, HB5.out.trans (hb1.mono HB5.out.size)⟩
theorem slips_law (s : ByteArray) (l : List UInt8) (hl : s.data.toList = l) (hs : s.size ≤ 150000000000000) (p : Int) (c : UInt8) (t : TypeId) (x : Value) (w : World) (hG : Glob w.heap.size w t x) :
    Calls Tryd.prog 7 #[.string s, .int .i64 p, .int .u8 (c.toNat : Int)] w fun e w' => e = .returned (.bool true) ∧ Below w.heap.size w w' := by
  cases hv : Chk.valid l
  · exact slips_in s l hl hs p c t x w hG hv
  · exact slips_va s l hl hs p c t x w hG hv
end Go.Proofs.YtnigkjpcccccbaaDoor
