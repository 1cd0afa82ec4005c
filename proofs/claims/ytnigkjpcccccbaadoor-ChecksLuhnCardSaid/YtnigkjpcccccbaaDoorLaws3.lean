/-
  Walks over statements of layer 3, more: what fits.
-/
import Derived.Test.YtnigkjpcccccbaaDoorLaws2
namespace Go.Proofs.YtnigkjpcccccbaaDoor
open Go.RowKit

theorem cat_data {a b : ByteArray} {l m : List UInt8} (ha : a.data.toList = l) (hb : b.data.toList = m) : (a ++ b).data.toList = l ++ m := by simp [ByteArray.data_append, ha, hb]
theorem dstr_data (l : List UInt8) : (dstr l).data.toList = Chk.digits l := rfl
theorem dstr_size (l : List UInt8) : (dstr l).size = 2 := rfl

set_option maxRecDepth 100000 in
set_option maxHeartbeats 2000000 in
theorem fits_vf (s : ByteArray) (l : List UInt8) (hl : s.data.toList = l) (hs : s.size ≤ 200000000000000) (A : Nat → Addr) (w : World) (hG : Glob37 w.heap.size w A) (hv : Chk.valid l = true) (hf : Chk.fits l = true) :
    Calls Tryd.prog 6 #[.string s] w fun e w' => e = .returned (.bool true) ∧ Below w.heap.size w w' := by
  have hnn : ∀ W : World, (binOp .eql 31 .nilIface .nilIface).run Tryd.prog W = .ok (.bool true) W := fun W => by kernel_rfl
  have hnm : ∀ W : World, (binOp .neq 31 .nilIface .nilIface).run Tryd.prog W = .ok (.bool false) W := fun W => by kernel_rfl
  have HL := Lib.hid hl
  have HG0 := Lib.hid hG
  have HG := Lib.hid hG
  have HSm := Lib.hid (show s.size ≤ maxLen by unfold maxLen; omega)
  have HSk := Lib.hid (show s.size ≤ 1000000000000000 by omega)
  have hrb := Chk.rest_bd l
  have HV := Lib.hid hv
  have HF := Lib.hid hf
  have HB := Lib.hid (Below.refl w.heap.size w)
  have hf2 := Chk.fits_digits l hv
  have hr2 := Chk.fits_rest _ hf2
  have HL2 := Lib.hid (cat_data hl (dstr_data l))
  have HS2 := Lib.hid (show (s ++ dstr l).size ≤ 1000000000000000 by rw [ByteArray.size_append, dstr_size]; omega)
  have HS3 := Lib.hid (show (s ++ dstr l).size ≤ maxLen by rw [ByteArray.size_append, dstr_size]; unfold maxLen; omega)
  have hds : (dstr l).size ≤ 2 := Nat.le_of_eq (dstr_size l)
  have HF2 := Lib.hid hf2
  have HV2 := Lib.hid hr2.1
  have HR2 := Lib.hid hr2.2
  clear hf2 hr2
  have HR1 := Lib.hid (Chk.fits_rest _ hf).2
  clear hl hG hv hf
  go_enter Tryd.func6, Tryd.ntmps6
  go_wp2_with fail
  refine (lives_any _ _ _ _ HG.out.gl).mono ?_
  rintro e w1 ⟨rfl, hb1⟩
  have HB2 := Lib.hid (HB.out.trans (hb1.mono HB.out.size))
  clear hb1 HB
  have HB := HB2
  clear HB2
  have HG2 := Lib.hid (HG0.out.below HB.out)
  clear HG
  have HG := HG2
  clear HG2
  go_wp2_with fail
  refine (rest_yes _ _ HL.out HSm.out HV.out _ _ HG.out.gl.err).mono ?_
  rintro e w1 ⟨rfl, rfl⟩
  rw [HR1.out]
  go_wp2_with fail
  refine (fits_any _ _ HL.out HSk.out _ _ _ HG.out.gl.err).mono ?_
  rintro e w1 ⟨rfl, hb1⟩
  rw [HF.out]
  have HB2 := Lib.hid (HB.out.trans (hb1.mono HB.out.size))
  clear hb1 HB
  have HB := HB2
  clear HB2
  have HG2 := Lib.hid (HG0.out.below HB.out)
  clear HG
  have HG := HG2
  clear HG2
  go_wp2_with fail
  refine (digits_yes _ _ HL.out HSk.out HV.out _ _ HG.out.gl.err).mono ?_
  rintro e w1 ⟨rfl, hb1⟩
  have HB2 := Lib.hid (HB.out.trans (hb1.mono HB.out.size))
  clear hb1 HB
  have HB := HB2
  clear HB2
  have HG2 := Lib.hid (HG0.out.below HB.out)
  clear HG
  have HG := HG2
  clear HG2
  go_wp2_with fail
  go_quiet (fail)
  go_wp2_with fail
  refine (rest_yes _ _ HL2.out HS3.out HV2.out _ _ (by exact HG.out.gl.err)).mono ?_
  rintro e w1 ⟨rfl, rfl⟩
  rw [HR2.out]
  go_wp2_with fail
  refine (fits_any _ _ HL2.out HS2.out _ _ _ (by exact HG.out.gl.err)).mono ?_
  rintro e w1 ⟨rfl, hb1⟩
  rw [HF2.out]
  go_wp2
  go_ret
  exact ⟨rfl, (below_drewN HB.out _).trans (hb1.mono HB.out.size)⟩
set_option maxRecDepth 100000 in
set_option maxHeartbeats 2000000 in
theorem fits_vn (s : ByteArray) (l : List UInt8) (hl : s.data.toList = l) (hs : s.size ≤ 200000000000000) (A : Nat → Addr) (w : World) (hG : Glob37 w.heap.size w A) (hv : Chk.valid l = true) (hf : Chk.fits l = false) :
    Calls Tryd.prog 6 #[.string s] w fun e w' => e = .returned (.bool true) ∧ Below w.heap.size w w' := by
  have hnn : ∀ W : World, (binOp .eql 31 .nilIface .nilIface).run Tryd.prog W = .ok (.bool true) W := fun W => by kernel_rfl
  have hnm : ∀ W : World, (binOp .neq 31 .nilIface .nilIface).run Tryd.prog W = .ok (.bool false) W := fun W => by kernel_rfl
  have HL := Lib.hid hl
  have HG0 := Lib.hid hG
  have HG := Lib.hid hG
  have HSm := Lib.hid (show s.size ≤ maxLen by unfold maxLen; omega)
  have HSk := Lib.hid (show s.size ≤ 1000000000000000 by omega)
  have hrb := Chk.rest_bd l
  have HV := Lib.hid hv
  have HF := Lib.hid hf
  have HB := Lib.hid (Below.refl w.heap.size w)
  have hf2 := Chk.fits_digits l hv
  have hr2 := Chk.fits_rest _ hf2
  have HL2 := Lib.hid (cat_data hl (dstr_data l))
  have HS2 := Lib.hid (show (s ++ dstr l).size ≤ 1000000000000000 by rw [ByteArray.size_append, dstr_size]; omega)
  have HS3 := Lib.hid (show (s ++ dstr l).size ≤ maxLen by rw [ByteArray.size_append, dstr_size]; unfold maxLen; omega)
  have hds : (dstr l).size ≤ 2 := Nat.le_of_eq (dstr_size l)
  have HF2 := Lib.hid hf2
  have HV2 := Lib.hid hr2.1
  have HR2 := Lib.hid hr2.2
  clear hf2 hr2
  clear hl hG hv hf
  go_enter Tryd.func6, Tryd.ntmps6
  go_wp2_with fail
  refine (lives_any _ _ _ _ HG.out.gl).mono ?_
  rintro e w1 ⟨rfl, hb1⟩
  have HB2 := Lib.hid (HB.out.trans (hb1.mono HB.out.size))
  clear hb1 HB
  have HB := HB2
  clear HB2
  have HG2 := Lib.hid (HG0.out.below HB.out)
  clear HG
  have HG := HG2
  clear HG2
  go_wp2_with fail
  refine (rest_yes _ _ HL.out HSm.out HV.out _ _ HG.out.gl.err).mono ?_
  rintro e w1 ⟨rfl, rfl⟩
  go_wp2_with fail
  refine (fits_any _ _ HL.out HSk.out _ _ _ HG.out.gl.err).mono ?_
  rintro e w1 ⟨rfl, hb1⟩
  rw [HF.out]
  have HB2 := Lib.hid (HB.out.trans (hb1.mono HB.out.size))
  clear hb1 HB
  have HB := HB2
  clear HB2
  have HG2 := Lib.hid (HG0.out.below HB.out)
  clear HG
  have HG := HG2
  clear HG2
  go_wp2_with fail
  refine (digits_yes _ _ HL.out HSk.out HV.out _ _ HG.out.gl.err).mono ?_
  rintro e w1 ⟨rfl, hb1⟩
  have HB2 := Lib.hid (HB.out.trans (hb1.mono HB.out.size))
  clear hb1 HB
  have HB := HB2
  clear HB2
  have HG2 := Lib.hid (HG0.out.below HB.out)
  clear HG
  have HG := HG2
  clear HG2
  go_wp2_with fail
  go_quiet (fail)
  go_wp2_with fail
  refine (rest_yes _ _ HL2.out HS3.out HV2.out _ _ (by exact HG.out.gl.err)).mono ?_
  rintro e w1 ⟨rfl, rfl⟩
  rw [HR2.out]
  go_wp2_with fail
  refine (fits_any _ _ HL2.out HS2.out _ _ _ (by exact HG.out.gl.err)).mono ?_
  rintro e w1 ⟨rfl, hb1⟩
  rw [HF2.out]
  go_wp2
  go_ret
  exact ⟨rfl, (below_drewN HB.out _).trans (hb1.mono HB.out.size)⟩
set_option maxRecDepth 100000 in
set_option maxHeartbeats 2000000 in
theorem fits_in (s : ByteArray) (l : List UInt8) (hl : s.data.toList = l) (hs : s.size ≤ 200000000000000) (A : Nat → Addr) (w : World) (hG : Glob37 w.heap.size w A) (hv : Chk.valid l = false) (hf : Chk.fits l = false) :
    Calls Tryd.prog 6 #[.string s] w fun e w' => e = .returned (.bool true) ∧ Below w.heap.size w w' := by
  have hnn : ∀ W : World, (binOp .eql 31 .nilIface .nilIface).run Tryd.prog W = .ok (.bool true) W := fun W => by kernel_rfl
  have hnm : ∀ W : World, (binOp .neq 31 .nilIface .nilIface).run Tryd.prog W = .ok (.bool false) W := fun W => by kernel_rfl
  have HL := Lib.hid hl
  have HG0 := Lib.hid hG
  have HG := Lib.hid hG
  have HSm := Lib.hid (show s.size ≤ maxLen by unfold maxLen; omega)
  have HSk := Lib.hid (show s.size ≤ 1000000000000000 by omega)
  have hrb := Chk.rest_bd l
  have HV := Lib.hid hv
  have HF := Lib.hid hf
  have HB := Lib.hid (Below.refl w.heap.size w)
  clear hl hG hv hf
  go_enter Tryd.func6, Tryd.ntmps6
  go_wp2_with fail
  refine (lives_any _ _ _ _ HG.out.gl).mono ?_
  rintro e w1 ⟨rfl, hb1⟩
  have HB2 := Lib.hid (HB.out.trans (hb1.mono HB.out.size))
  clear hb1 HB
  have HB := HB2
  clear HB2
  have HG2 := Lib.hid (HG0.out.below HB.out)
  clear HG
  have HG := HG2
  clear HG2
  go_wp2_with fail
  refine (rest_no _ _ HL.out HSm.out HV.out _ _ HG.out.gl.err).mono ?_
  rintro e w1 ⟨rfl, n, rfl⟩
  have HB2 := Lib.hid (below_drewN HB.out n)
  clear HB
  have HB := HB2
  clear HB2
  have HG2 := Lib.hid (HG0.out.below HB.out)
  clear HG
  have HG := HG2
  clear HG2
  go_wp2_with fail
  refine (fits_any _ _ HL.out HSk.out _ _ _ HG.out.gl.err).mono ?_
  rintro e w1 ⟨rfl, hb1⟩
  rw [HF.out]
  have HB2 := Lib.hid (HB.out.trans (hb1.mono HB.out.size))
  clear hb1 HB
  have HB := HB2
  clear HB2
  have HG2 := Lib.hid (HG0.out.below HB.out)
  clear HG
  have HG := HG2
  clear HG2
  go_wp2_with fail
  refine (digits_no _ _ HL.out HSk.out HV.out _ _ _ HG.out.gl.err).mono ?_
  rintro e w1 ⟨rfl, n, rfl⟩
  have HB2 := Lib.hid (below_drewN HB.out n)
  clear HB
  have HB := HB2
  clear HB2
  have HG2 := Lib.hid (HG0.out.below HB.out)
  clear HG
  have HG := HG2
  clear HG2
  go_wp2_with fail
  go_quiet (fail)
  go_wp2_with fail
  refine (num_form w.heap.size A _ (by exact HG.out.ers.keep HG.out.ers.size fun _ _ => rfl)).mono ?_
  rintro e w2 ⟨rfl, hb1⟩
  have hx : Below w.heap.size w (w1.drewN (n + nq)) := ⟨HB.out.os, HB.out.tape, HB.out.output, HB.out.size, HB.out.block⟩
  go_wp2
  go_ret
  exact ⟨rfl, hx.trans (hb1.mono hx.size)⟩
theorem fits_law (s : ByteArray) (hs : s.size ≤ 200000000000000) (A : Nat → Addr) (w : World) (hG : Glob37 w.heap.size w A) :
    Calls Tryd.prog 6 #[.string s] w fun e w' => e = .returned (.bool true) ∧ Below w.heap.size w w' := by
  cases hv : Chk.valid s.data.toList <;> cases hf : Chk.fits s.data.toList
  · exact fits_in s _ rfl hs A w hG hv hf
  · have := (Chk.fits_rest _ hf).1
    rw [hv] at this
    cases this
  · exact fits_vn s _ rfl hs A w hG hv hf
  · exact fits_vf s _ rfl hs A w hG hv hf
end Go.Proofs.YtnigkjpcccccbaaDoor
