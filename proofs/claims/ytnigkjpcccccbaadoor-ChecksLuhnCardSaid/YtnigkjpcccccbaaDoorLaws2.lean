/-
  Walks over statements of layer 3, more: rests.
-/
import Derived.Test.YtnigkjpcccccbaaDoorLaws
namespace Go.Proofs.YtnigkjpcccccbaaDoor
open Go.RowKit

theorem num_form (B : Nat) (A : Nat → Addr) (w : World) (h : Errs B w A) :
    Calls Tryd.prog 16 #[.iface 50 (.pointer (some (A 6)))] w fun e w' => e = .returned (.int .i64 7) ∧ Below w.heap.size w w' :=
  num_of 6 7 (by omega) rfl B A w h
/-- The world with all 37 sentinels and the table. -/
structure Glob37 (B : Nat) (w : World) (A : Nat → Addr) : Prop where
  gl : Glob B w 50 (.pointer (some (A 6)))
  ers : Errs B w A
theorem Glob37.below {B : Nat} {w w' : World} {A : Nat → Addr} (h : Glob37 B w A) (hb : Below B w w') : Glob37 B w' A := ⟨h.gl.below hb, h.ers.below hb (Nat.le_refl _)⟩

set_option maxRecDepth 100000 in
set_option maxHeartbeats 2000000 in
theorem rests_vd (s : ByteArray) (l : List UInt8) (hl : s.data.toList = l) (hs : s.size ≤ 200000000000000) (A : Nat → Addr) (w : World) (hG : Glob37 w.heap.size w A) (hv : Chk.valid l = true) (hd : Chk.ldig l = true) :
    Calls Tryd.prog 5 #[.string s] w fun e w' => e = .returned (.bool true) ∧ Below w.heap.size w w' := by
  have HL := Lib.hid hl
  have HG0 := Lib.hid hG
  have HG := Lib.hid hG
  have HSm := Lib.hid (show s.size ≤ maxLen by unfold maxLen; omega)
  have HSk := Lib.hid (show s.size ≤ 1000000000000000 by omega)
  have HV := Lib.hid hv
  have HD := Lib.hid hd
  have HB := Lib.hid (Below.refl w.heap.size w)
  clear hl hG hv hd
  go_enter Tryd.func5, Tryd.ntmps5
  go_wp2_with fail
  refine (lives_any _ _ _ _ HG.out.gl).mono ?_
  rintro e w1 ⟨rfl, hb1⟩
  have HB2 := Lib.hid (HB.out.trans (hb1.mono HB.out.size))
  clear hb1 HB
  have HB := HB2
  clear HB2
  have HG2 := Lib.hid (HG0.out.below HB.out)
  clear HG
  have HG := HG2
  clear HG2
  go_wp2_with fail
  refine (rest_yes _ _ HL.out HSm.out HV.out _ _ HG.out.gl.err).mono ?_
  rintro e w1 ⟨rfl, rfl⟩
  go_wp2_with fail
  refine (restr_l _ _ HL.out HSm.out _).mono ?_
  rintro e w1 ⟨rfl, rfl⟩
  rw [rnum_yes HV.out, rcode_yes HV.out]
  go_wp2_with fail
  refine (num_nil _).mono ?_
  rintro e w1 ⟨rfl, rfl⟩
  go_wp2_with fail
  refine (digits_yes _ _ HL.out HSk.out HV.out _ _ HG.out.gl.err).mono ?_
  rintro e w1 ⟨rfl, hb1⟩
  have HB2 := Lib.hid (HB.out.trans (hb1.mono HB.out.size))
  clear hb1 HB
  have HB := HB2
  clear HB2
  have HG2 := Lib.hid (HG0.out.below HB.out)
  clear HG
  have HG := HG2
  clear HG2
  go_wp2_with fail
  refine (digitsr_any _ _ HL.out HSk.out _).mono ?_
  rintro e w1 ⟨rfl, hb1⟩
  have HB2 := Lib.hid (HB.out.trans (hb1.mono HB.out.size))
  clear hb1 HB
  have HB := HB2
  clear HB2
  have HG2 := Lib.hid (HG0.out.below HB.out)
  clear HG
  have HG := HG2
  clear HG2
  rw [dtext_yes HV.out, rcode_yes HV.out]
  go_wp2_with fail
  refine (num_nil _).mono ?_
  rintro e w1 ⟨rfl, rfl⟩
  go_wp2_with fail
  refine (luhn_yes _ _ HL.out HSk.out HD.out _).mono ?_
  rintro e w1 ⟨rfl, rfl⟩
  go_wp2_with fail
  refine (luhnr_any _ _ HL.out HSk.out _).mono ?_
  rintro e w1 ⟨rfl, rfl⟩
  rw [lnum_yes HD.out, lcode_yes HD.out]
  go_wp2_with fail
  refine (num_nil _).mono ?_
  rintro e w1 ⟨rfl, rfl⟩
  go_wp2_with fail
  refine (fits_any _ _ HL.out HSk.out _ _ _ HG.out.gl.err).mono ?_
  rintro e w1 ⟨rfl, hb1⟩
  have HB2 := Lib.hid (HB.out.trans (hb1.mono HB.out.size))
  clear hb1 HB
  have HB := HB2
  clear HB2
  have HG2 := Lib.hid (HG0.out.below HB.out)
  clear HG
  have HG := HG2
  clear HG2
  go_wp2_with fail
  refine (fitsr_any _ _ HL.out HSk.out _).mono ?_
  rintro e w1 ⟨rfl, hb1⟩
  have HB2 := Lib.hid (HB.out.trans (hb1.mono HB.out.size))
  clear hb1 HB
  have HB := HB2
  clear HB2
  have HG2 := Lib.hid (HG0.out.below HB.out)
  clear HG
  have HG := HG2
  clear HG2
  go_wp2
  go_ret
  exact ⟨rfl, HB.out⟩
set_option maxRecDepth 100000 in
set_option maxHeartbeats 2000000 in
theorem rests_vn (s : ByteArray) (l : List UInt8) (hl : s.data.toList = l) (hs : s.size ≤ 200000000000000) (A : Nat → Addr) (w : World) (hG : Glob37 w.heap.size w A) (hv : Chk.valid l = true) (hd : Chk.ldig l = false) :
    Calls Tryd.prog 5 #[.string s] w fun e w' => e = .returned (.bool true) ∧ Below w.heap.size w w' := by
  have HL := Lib.hid hl
  have HG0 := Lib.hid hG
  have HG := Lib.hid hG
  have HSm := Lib.hid (show s.size ≤ maxLen by unfold maxLen; omega)
  have HSk := Lib.hid (show s.size ≤ 1000000000000000 by omega)
  have HV := Lib.hid hv
  have HD := Lib.hid hd
  have HB := Lib.hid (Below.refl w.heap.size w)
  clear hl hG hv hd
  go_enter Tryd.func5, Tryd.ntmps5
  go_wp2_with fail
  refine (lives_any _ _ _ _ HG.out.gl).mono ?_
  rintro e w1 ⟨rfl, hb1⟩
  have HB2 := Lib.hid (HB.out.trans (hb1.mono HB.out.size))
  clear hb1 HB
  have HB := HB2
  clear HB2
  have HG2 := Lib.hid (HG0.out.below HB.out)
  clear HG
  have HG := HG2
  clear HG2
  go_wp2_with fail
  refine (rest_yes _ _ HL.out HSm.out HV.out _ _ HG.out.gl.err).mono ?_
  rintro e w1 ⟨rfl, rfl⟩
  go_wp2_with fail
  refine (restr_l _ _ HL.out HSm.out _).mono ?_
  rintro e w1 ⟨rfl, rfl⟩
  rw [rnum_yes HV.out, rcode_yes HV.out]
  go_wp2_with fail
  refine (num_nil _).mono ?_
  rintro e w1 ⟨rfl, rfl⟩
  go_wp2_with fail
  refine (digits_yes _ _ HL.out HSk.out HV.out _ _ HG.out.gl.err).mono ?_
  rintro e w1 ⟨rfl, hb1⟩
  have HB2 := Lib.hid (HB.out.trans (hb1.mono HB.out.size))
  clear hb1 HB
  have HB := HB2
  clear HB2
  have HG2 := Lib.hid (HG0.out.below HB.out)
  clear HG
  have HG := HG2
  clear HG2
  go_wp2_with fail
  refine (digitsr_any _ _ HL.out HSk.out _).mono ?_
  rintro e w1 ⟨rfl, hb1⟩
  have HB2 := Lib.hid (HB.out.trans (hb1.mono HB.out.size))
  clear hb1 HB
  have HB := HB2
  clear HB2
  have HG2 := Lib.hid (HG0.out.below HB.out)
  clear HG
  have HG := HG2
  clear HG2
  rw [dtext_yes HV.out, rcode_yes HV.out]
  go_wp2_with fail
  refine (num_nil _).mono ?_
  rintro e w1 ⟨rfl, rfl⟩
  go_wp2_with fail
  refine (luhn_no _ _ HL.out HSk.out HD.out _ _ _ HG.out.gl.err).mono ?_
  rintro e w1 ⟨rfl, n, rfl⟩
  have HB2 := Lib.hid (below_drewN HB.out n)
  clear HB
  have HB := HB2
  clear HB2
  have HG2 := Lib.hid (HG0.out.below HB.out)
  clear HG
  have HG := HG2
  clear HG2
  go_wp2_with fail
  refine (luhnr_any _ _ HL.out HSk.out _).mono ?_
  rintro e w1 ⟨rfl, rfl⟩
  rw [lnum_no HD.out, lcode_no HD.out]
  go_wp2_with fail
  refine (num_form _ A _ HG.out.ers).mono ?_
  rintro e w1 ⟨rfl, hb1⟩
  have HB2 := Lib.hid (HB.out.trans (hb1.mono HB.out.size))
  clear hb1 HB
  have HB := HB2
  clear HB2
  have HG2 := Lib.hid (HG0.out.below HB.out)
  clear HG
  have HG := HG2
  clear HG2
  go_wp2_with fail
  refine (fits_any _ _ HL.out HSk.out _ _ _ HG.out.gl.err).mono ?_
  rintro e w1 ⟨rfl, hb1⟩
  have HB2 := Lib.hid (HB.out.trans (hb1.mono HB.out.size))
  clear hb1 HB
  have HB := HB2
  clear HB2
  have HG2 := Lib.hid (HG0.out.below HB.out)
  clear HG
  have HG := HG2
  clear HG2
  go_wp2_with fail
  refine (fitsr_any _ _ HL.out HSk.out _).mono ?_
  rintro e w1 ⟨rfl, hb1⟩
  have HB2 := Lib.hid (HB.out.trans (hb1.mono HB.out.size))
  clear hb1 HB
  have HB := HB2
  clear HB2
  have HG2 := Lib.hid (HG0.out.below HB.out)
  clear HG
  have HG := HG2
  clear HG2
  go_wp2
  go_ret
  exact ⟨rfl, HB.out⟩
set_option maxRecDepth 100000 in
set_option maxHeartbeats 2000000 in
theorem rests_id (s : ByteArray) (l : List UInt8) (hl : s.data.toList = l) (hs : s.size ≤ 200000000000000) (A : Nat → Addr) (w : World) (hG : Glob37 w.heap.size w A) (hv : Chk.valid l = false) (hd : Chk.ldig l = true) :
    Calls Tryd.prog 5 #[.string s] w fun e w' => e = .returned (.bool true) ∧ Below w.heap.size w w' := by
  have HL := Lib.hid hl
  have HG0 := Lib.hid hG
  have HG := Lib.hid hG
  have HSm := Lib.hid (show s.size ≤ maxLen by unfold maxLen; omega)
  have HSk := Lib.hid (show s.size ≤ 1000000000000000 by omega)
  have HV := Lib.hid hv
  have HD := Lib.hid hd
  have HB := Lib.hid (Below.refl w.heap.size w)
  clear hl hG hv hd
  go_enter Tryd.func5, Tryd.ntmps5
  go_wp2_with fail
  refine (lives_any _ _ _ _ HG.out.gl).mono ?_
  rintro e w1 ⟨rfl, hb1⟩
  have HB2 := Lib.hid (HB.out.trans (hb1.mono HB.out.size))
  clear hb1 HB
  have HB := HB2
  clear HB2
  have HG2 := Lib.hid (HG0.out.below HB.out)
  clear HG
  have HG := HG2
  clear HG2
  go_wp2_with fail
  refine (rest_no _ _ HL.out HSm.out HV.out _ _ HG.out.gl.err).mono ?_
  rintro e w1 ⟨rfl, n, rfl⟩
  have HB2 := Lib.hid (below_drewN HB.out n)
  clear HB
  have HB := HB2
  clear HB2
  have HG2 := Lib.hid (HG0.out.below HB.out)
  clear HG
  have HG := HG2
  clear HG2
  go_wp2_with fail
  refine (restr_l _ _ HL.out HSm.out _).mono ?_
  rintro e w1 ⟨rfl, rfl⟩
  rw [rnum_no HV.out, rcode_no HV.out]
  go_wp2_with fail
  refine (num_form _ A _ HG.out.ers).mono ?_
  rintro e w1 ⟨rfl, hb1⟩
  have HB2 := Lib.hid (HB.out.trans (hb1.mono HB.out.size))
  clear hb1 HB
  have HB := HB2
  clear HB2
  have HG2 := Lib.hid (HG0.out.below HB.out)
  clear HG
  have HG := HG2
  clear HG2
  go_wp2_with fail
  refine (digits_no _ _ HL.out HSk.out HV.out _ _ _ HG.out.gl.err).mono ?_
  rintro e w1 ⟨rfl, n, rfl⟩
  have HB2 := Lib.hid (below_drewN HB.out n)
  clear HB
  have HB := HB2
  clear HB2
  have HG2 := Lib.hid (HG0.out.below HB.out)
  clear HG
  have HG := HG2
  clear HG2
  go_wp2_with fail
  refine (digitsr_any _ _ HL.out HSk.out _).mono ?_
  rintro e w1 ⟨rfl, hb1⟩
  have HB2 := Lib.hid (HB.out.trans (hb1.mono HB.out.size))
  clear hb1 HB
  have HB := HB2
  clear HB2
  have HG2 := Lib.hid (HG0.out.below HB.out)
  clear HG
  have HG := HG2
  clear HG2
  rw [dtext_no HV.out, rcode_no HV.out]
  go_wp2_with fail
  refine (num_form _ A _ HG.out.ers).mono ?_
  rintro e w1 ⟨rfl, hb1⟩
  have HB2 := Lib.hid (HB.out.trans (hb1.mono HB.out.size))
  clear hb1 HB
  have HB := HB2
  clear HB2
  have HG2 := Lib.hid (HG0.out.below HB.out)
  clear HG
  have HG := HG2
  clear HG2
  go_wp2_with fail
  refine (luhn_yes _ _ HL.out HSk.out HD.out _).mono ?_
  rintro e w1 ⟨rfl, rfl⟩
  go_wp2_with fail
  refine (luhnr_any _ _ HL.out HSk.out _).mono ?_
  rintro e w1 ⟨rfl, rfl⟩
  rw [lnum_yes HD.out, lcode_yes HD.out]
  go_wp2_with fail
  refine (num_nil _).mono ?_
  rintro e w1 ⟨rfl, rfl⟩
  go_wp2_with fail
  refine (fits_any _ _ HL.out HSk.out _ _ _ HG.out.gl.err).mono ?_
  rintro e w1 ⟨rfl, hb1⟩
  have HB2 := Lib.hid (HB.out.trans (hb1.mono HB.out.size))
  clear hb1 HB
  have HB := HB2
  clear HB2
  have HG2 := Lib.hid (HG0.out.below HB.out)
  clear HG
  have HG := HG2
  clear HG2
  go_wp2_with fail
  refine (fitsr_any _ _ HL.out HSk.out _).mono ?_
  rintro e w1 ⟨rfl, hb1⟩
  have HB2 := Lib.hid (HB.out.trans (hb1.mono HB.out.size))
  clear hb1 HB
  have HB := HB2
  clear HB2
  have HG2 := Lib.hid (HG0.out.below HB.out)
  clear HG
  have HG := HG2
  clear HG2
  go_wp2
  go_ret
  exact ⟨rfl, HB.out⟩
set_option maxRecDepth 100000 in
set_option maxHeartbeats 2000000 in
theorem rests_in (s : ByteArray) (l : List UInt8) (hl : s.data.toList = l) (hs : s.size ≤ 200000000000000) (A : Nat → Addr) (w : World) (hG : Glob37 w.heap.size w A) (hv : Chk.valid l = false) (hd : Chk.ldig l = false) :
    Calls Tryd.prog 5 #[.string s] w fun e w' => e = .returned (.bool true) ∧ Below w.heap.size w w' := by
  have HL := Lib.hid hl
  have HG0 := Lib.hid hG
  have HG := Lib.hid hG
  have HSm := Lib.hid (show s.size ≤ maxLen by unfold maxLen; omega)
  have HSk := Lib.hid (show s.size ≤ 1000000000000000 by omega)
  have HV := Lib.hid hv
  have HD := Lib.hid hd
  have HB := Lib.hid (Below.refl w.heap.size w)
  clear hl hG hv hd
  go_enter Tryd.func5, Tryd.ntmps5
  go_wp2_with fail
  refine (lives_any _ _ _ _ HG.out.gl).mono ?_
  rintro e w1 ⟨rfl, hb1⟩
  have HB2 := Lib.hid (HB.out.trans (hb1.mono HB.out.size))
  clear hb1 HB
  have HB := HB2
  clear HB2
  have HG2 := Lib.hid (HG0.out.below HB.out)
  clear HG
  have HG := HG2
  clear HG2
  go_wp2_with fail
  refine (rest_no _ _ HL.out HSm.out HV.out _ _ HG.out.gl.err).mono ?_
  rintro e w1 ⟨rfl, n, rfl⟩
  have HB2 := Lib.hid (below_drewN HB.out n)
  clear HB
  have HB := HB2
  clear HB2
  have HG2 := Lib.hid (HG0.out.below HB.out)
  clear HG
  have HG := HG2
  clear HG2
  go_wp2_with fail
  refine (restr_l _ _ HL.out HSm.out _).mono ?_
  rintro e w1 ⟨rfl, rfl⟩
  rw [rnum_no HV.out, rcode_no HV.out]
  go_wp2_with fail
  refine (num_form _ A _ HG.out.ers).mono ?_
  rintro e w1 ⟨rfl, hb1⟩
  have HB2 := Lib.hid (HB.out.trans (hb1.mono HB.out.size))
  clear hb1 HB
  have HB := HB2
  clear HB2
  have HG2 := Lib.hid (HG0.out.below HB.out)
  clear HG
  have HG := HG2
  clear HG2
  go_wp2_with fail
  refine (digits_no _ _ HL.out HSk.out HV.out _ _ _ HG.out.gl.err).mono ?_
  rintro e w1 ⟨rfl, n, rfl⟩
  have HB2 := Lib.hid (below_drewN HB.out n)
  clear HB
  have HB := HB2
  clear HB2
  have HG2 := Lib.hid (HG0.out.below HB.out)
  clear HG
  have HG := HG2
  clear HG2
  go_wp2_with fail
  refine (digitsr_any _ _ HL.out HSk.out _).mono ?_
  rintro e w1 ⟨rfl, hb1⟩
  have HB2 := Lib.hid (HB.out.trans (hb1.mono HB.out.size))
  clear hb1 HB
  have HB := HB2
  clear HB2
  have HG2 := Lib.hid (HG0.out.below HB.out)
  clear HG
  have HG := HG2
  clear HG2
  rw [dtext_no HV.out, rcode_no HV.out]
  go_wp2_with fail
  refine (num_form _ A _ HG.out.ers).mono ?_
  rintro e w1 ⟨rfl, hb1⟩
  have HB2 := Lib.hid (HB.out.trans (hb1.mono HB.out.size))
  clear hb1 HB
  have HB := HB2
  clear HB2
  have HG2 := Lib.hid (HG0.out.below HB.out)
  clear HG
  have HG := HG2
  clear HG2
  go_wp2_with fail
  refine (luhn_no _ _ HL.out HSk.out HD.out _ _ _ HG.out.gl.err).mono ?_
  rintro e w1 ⟨rfl, n, rfl⟩
  have HB2 := Lib.hid (below_drewN HB.out n)
  clear HB
  have HB := HB2
  clear HB2
  have HG2 := Lib.hid (HG0.out.below HB.out)
  clear HG
  have HG := HG2
  clear HG2
  go_wp2_with fail
  refine (luhnr_any _ _ HL.out HSk.out _).mono ?_
  rintro e w1 ⟨rfl, rfl⟩
  rw [lnum_no HD.out, lcode_no HD.out]
  go_wp2_with fail
  refine (num_form _ A _ HG.out.ers).mono ?_
  rintro e w1 ⟨rfl, hb1⟩
  have HB2 := Lib.hid (HB.out.trans (hb1.mono HB.out.size))
  clear hb1 HB
  have HB := HB2
  clear HB2
  have HG2 := Lib.hid (HG0.out.below HB.out)
  clear HG
  have HG := HG2
  clear HG2
  go_wp2_with fail
  refine (fits_any _ _ HL.out HSk.out _ _ _ HG.out.gl.err).mono ?_
  rintro e w1 ⟨rfl, hb1⟩
  have HB2 := Lib.hid (HB.out.trans (hb1.mono HB.out.size))
  clear hb1 HB
  have HB := HB2
  clear HB2
  have HG2 := Lib.hid (HG0.out.below HB.out)
  clear HG
  have HG := HG2
  clear HG2
  go_wp2_with fail
  refine (fitsr_any _ _ HL.out HSk.out _).mono ?_
  rintro e w1 ⟨rfl, hb1⟩
  have HB2 := Lib.hid (HB.out.trans (hb1.mono HB.out.size))
  clear hb1 HB
  have HB := HB2
  clear HB2
  have HG2 := Lib.hid (HG0.out.below HB.out)
  clear HG
  have HG := HG2
  clear HG2
  go_wp2
  go_ret
  exact ⟨rfl, HB.out⟩
theorem rests_law (s : ByteArray) (hs : s.size ≤ 200000000000000) (A : Nat → Addr) (w : World) (hG : Glob37 w.heap.size w A) :
    Calls Tryd.prog 5 #[.string s] w fun e w' => e = .returned (.bool true) ∧ Below w.heap.size w w' := by
  cases hv : Chk.valid s.data.toList <;> cases hd : Chk.ldig s.data.toList
  · exact rests_in s _ rfl hs A w hG hv hd
  · exact rests_id s _ rfl hs A w hG hv hd
  · exact rests_vn s _ rfl hs A w hG hv hd
  · exact rests_vd s _ rfl hs A w hG hv hd
end Go.Proofs.YtnigkjpcccccbaaDoor
