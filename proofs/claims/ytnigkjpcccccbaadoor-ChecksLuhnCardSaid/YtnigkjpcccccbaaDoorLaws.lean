/-
  Walks over statements of layer 3: sums, rests, what fits.
-/
import Derived.Test.YtnigkjpcccccbaaDoorWalks3
import Derived.Test.YtnigkjpcccccbaaDoorCrcWalk
import Derived.Test.YtnigkjpcccccbaaDoorErr
namespace Go.Proofs.YtnigkjpcccccbaaDoor
open Go.RowKit

/-- What the statements need of the world: the sentinel ErrForm, the nibbles' table; kept by whatever writes nothing below B. -/
structure Glob (B : Nat) (w : World) (t : TypeId) (x : Value) : Prop where
  size : B ≤ w.heap.size
  gE : 1 < B
  gN : 0 < B
  err : w.cell? ⟨1, 0, none⟩ = some (.iface t x)
  nib : Nibs w
theorem Glob.below {B : Nat} {w w' : World} {t : TypeId} {x : Value} (h : Glob B w t x) (hb : Below B w w') : Glob B w' t x :=
  ⟨Nat.le_trans h.size hb.size, h.gE, h.gN, by rw [hb.cell h.gE]; exact h.err, h.nib.below hb h.gN⟩
theorem Glob.drewN {B : Nat} {w : World} {t : TypeId} {x : Value} (h : Glob B w t x) (n : Nat) : Glob B (w.drewN n) t x := h.below (below_drewN (Below.refl _ _) n)

theorem digits_fixed (v : Value) (w : World) (hc : w.cell? ⟨1, 0, none⟩ = some v) :
    Calls Tryd.prog 17 #[.string ⟨#[49]⟩] w fun e w' => e = .returned (.tuple #[.string ⟨#[57, 53]⟩, .nilIface]) ∧ Below w.heap.size w w' := by
  have h := digits_yes ⟨#[49]⟩ [49] rfl (by decide) (by decide) v w hc
  rwa [show dstr [49] = ⟨#[57, 53]⟩ from congrArg (fun l : List UInt8 => (⟨l.toArray⟩ : ByteArray)) (by decide)] at h
theorem luhn_fixed (w : World) :
    Calls Tryd.prog 19 #[.string ⟨#[55, 57, 57, 50, 55, 51, 57, 56, 55, 49]⟩] w fun e w' => e = .returned (.tuple #[.int .i64 3, .nilIface]) ∧ w = w' := by
  have h := luhn_yes ⟨#[55, 57, 57, 50, 55, 51, 57, 56, 55, 49]⟩ [55, 57, 57, 50, 55, 51, 57, 56, 55, 49] rfl (by decide) (by decide) w
  rwa [show Chk.luhn [55, 57, 57, 50, 55, 51, 57, 56, 55, 49] = 3 by decide] at h
theorem rest_fixed (v : Value) (w : World) (hc : w.cell? ⟨1, 0, none⟩ = some v) :
    Calls Tryd.prog 14 #[.string ⟨#[49, 65]⟩] w fun e w' => e = .returned (.tuple #[.int .i64 13, .nilIface]) ∧ w = w' := by
  have h := rest_yes ⟨#[49, 65]⟩ [49, 65] rfl (by decide) (by decide) v w hc
  rwa [show Chk.rest [49, 65] = 13 by decide] at h
theorem sum_fixed (w : World) (hN : Nibs w) :
    Calls Tryd.prog 10 #[.string ⟨#[49, 50, 51, 52, 53, 54, 55, 56, 57]⟩] w fun e w' => e = .returned (.int .u32 3808858755) ∧ w = w' := by
  have h := sum_any ⟨#[49, 50, 51, 52, 53, 54, 55, 56, 57]⟩ (by decide) w hN
  rwa [show (((Crc.sum (⟨#[49, 50, 51, 52, 53, 54, 55, 56, 57]⟩ : ByteArray).data.toList).toNat : Nat) : Int) = 3808858755 by decide +kernel] at h
theorem fits_fixed (t : TypeId) (x : Value) (w : World) (hc : w.cell? ⟨1, 0, none⟩ = some (.iface t x)) :
    Calls Tryd.prog 21 #[.string ⟨#[49, 57, 53]⟩] w fun e w' => e = .returned (.bool true) ∧ Below w.heap.size w w' := by
  have h := fits_any ⟨#[49, 57, 53]⟩ [49, 57, 53] rfl (by decide) t x w hc
  rwa [show Chk.fits [49, 57, 53] = true by decide] at h

set_option maxHeartbeats 1000000 in
theorem lives_any (B : Nat) (t : TypeId) (x : Value) (w : World) (hG : Glob B w t x) :
    Calls Tryd.prog 9 #[] w fun e w' => e = .returned (.bool true) ∧ Below w.heap.size w w' := by
  have hnn : ∀ W : World, (binOp .eql 31 .nilIface .nilIface).run Tryd.prog W = .ok (.bool true) W := fun W => by kernel_rfl
  have hb : Below w.heap.size w w := Below.refl _ _
  have HG := Lib.hid hG
  clear hG
  go_enter Tryd.func9, Tryd.ntmps9
  go_wp2_with fail
  refine (digits_fixed _ _ HG.out.err).mono ?_
  rintro e w1 ⟨rfl, hb1⟩
  have HG1 := Lib.hid (HG.out.below (hb1.mono HG.out.size))
  go_wp2_with fail
  refine (luhn_fixed _).mono ?_
  rintro e w2 ⟨rfl, rfl⟩
  go_wp2_with fail
  refine (rest_fixed _ _ HG1.out.err).mono ?_
  rintro e w2 ⟨rfl, rfl⟩
  go_wp2_with fail
  refine (sum_fixed _ HG1.out.nib).mono ?_
  rintro e w2 ⟨rfl, rfl⟩
  go_wp2_with fail
  refine (fits_fixed _ _ _ HG1.out.err).mono ?_
  rintro e w2 ⟨rfl, hb2⟩
  go_wp2
  go_ret
  exact ⟨rfl, hb1.trans (hb2.mono hb1.size)⟩

set_option maxHeartbeats 1000000 in
theorem sums_law (a b : ByteArray) (ha : a.size ≤ 200000000000000) (hbs : b.size ≤ 200000000000000) (u : BitVec 32) (t : TypeId) (x : Value) (w : World) (hG : Glob w.heap.size w t x) :
    Calls Tryd.prog 3 #[.string a, .string b, .int .u32 ((u.toNat : Nat) : Int)] w fun e w' => e = .returned (.bool true) ∧ Below w.heap.size w w' := by
  have HG := Lib.hid hG
  clear hG
  have hab : (a ++ b).data.toList = a.data.toList ++ b.data.toList := by simp [ByteArray.data_append]
  have h1 : Crc.sum (a ++ b).data.toList = Crc.ext (Crc.sum a.data.toList) b.data.toList := by rw [hab, Crc.sum_append]
  have h2 : Crc.ext u (a ++ b).data.toList = Crc.ext (Crc.ext u a.data.toList) b.data.toList := by rw [hab, Crc.ext_append]
  have hsz : (a ++ b).size ≤ maxLen := by rw [ByteArray.size_append]; unfold maxLen; omega
  have H1 := Lib.hid h1
  have H2 := Lib.hid h2
  have HS := Lib.hid hsz
  have HSa := Lib.hid (show a.size ≤ maxLen by unfold maxLen; omega)
  have HSb := Lib.hid (show b.size ≤ maxLen by unfold maxLen; omega)
  clear h1 h2 hsz hab
  go_enter Tryd.func3, Tryd.ntmps3
  go_wp2_with fail
  refine (lives_any _ _ _ _ HG.out).mono ?_
  rintro e w1 ⟨rfl, hb⟩
  have HG1 := Lib.hid (HG.out.below hb)
  clear HG
  go_wp2_with fail
  refine (sum_any a HSa.out _ HG1.out.nib).mono ?_
  rintro e w2 ⟨rfl, rfl⟩
  go_wp2_with fail
  refine (sumr_any a HSa.out _).mono ?_
  rintro e w2 ⟨rfl, rfl⟩
  go_wp2_with fail
  refine (extend_any u b HSb.out _ HG1.out.nib).mono ?_
  rintro e w2 ⟨rfl, rfl⟩
  go_wp2_with fail
  refine (extendr_any u b HSb.out _).mono ?_
  rintro e w2 ⟨rfl, rfl⟩
  go_wp2_with fail
  refine (sum_any a HSa.out _ HG1.out.nib).mono ?_
  rintro e w2 ⟨rfl, rfl⟩
  go_wp2_with fail
  refine (extend_any _ b HSb.out _ HG1.out.nib).mono ?_
  rintro e w2 ⟨rfl, rfl⟩
  go_wp2_with fail
  refine (sum_any (a ++ b) HS.out _ HG1.out.nib).mono ?_
  rintro e w2 ⟨rfl, rfl⟩
  rw [H1.out]
  go_wp2_with fail
  refine (extend_any u (a ++ b) HS.out _ HG1.out.nib).mono ?_
  rintro e w2 ⟨rfl, rfl⟩
  rw [H2.out]
  go_wp2_with fail
  refine (extend_any u a HSa.out _ HG1.out.nib).mono ?_
  rintro e w2 ⟨rfl, rfl⟩
  go_wp2_with fail
  refine (extend_any _ b HSb.out _ HG1.out.nib).mono ?_
  rintro e w2 ⟨rfl, rfl⟩
  go_wp2
  go_ret
  exact ⟨rfl, hb⟩
end Go.Proofs.YtnigkjpcccccbaaDoor
