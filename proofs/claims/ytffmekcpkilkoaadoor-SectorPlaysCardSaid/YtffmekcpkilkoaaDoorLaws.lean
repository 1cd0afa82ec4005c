/-
  Walks over statements of layer 7: the fixed calls, stamps.
-/
import Derived.Test.YtffmekcpkilkoaaDoorOpen
import Derived.Test.YtffmekcpkilkoaaDoorErr
namespace Go.Proofs.YtffmekcpkilkoaaDoor
open Go.RowKit

theorem bdn {B : Nat} {a w : World} (h : Below B a w) (n : Nat) : Below B a (w.drewN n) := ⟨h.os, h.tape, h.output, h.size, h.block⟩
/-- What the statements need of the world: the nibbles' table and, where E, the sentinels; kept by whatever writes nothing below B. -/
structure GlobE (E : Prop) (B : Nat) (w : World) (A : Nat → Addr) : Prop where
  size : B ≤ w.heap.size
  gN : 37 < B
  errs : E → Errs B w A
  nib : Nibs w
abbrev Glob := GlobE True
theorem GlobE.below {E : Prop} {B B' : Nat} {w w' : World} {A : Nat → Addr} (h : GlobE E B w A) (hb : Below B' w w') (hB : B ≤ B') : GlobE E B w' A :=
  ⟨Nat.le_trans h.size hb.size, h.gN, fun e => (h.errs e).below hb hB, h.nib.below hb (Nat.lt_of_lt_of_le h.gN hB)⟩
theorem GlobE.on {E : Prop} {B : Nat} {w w' : World} {A : Nat → Addr} (h : GlobE E B w A) (hb : Below w.heap.size w w') : GlobE E B w' A := h.below hb h.size
theorem GlobE.drewN {E : Prop} {B : Nat} {w : World} {A : Nat → Addr} (h : GlobE E B w A) (n : Nat) : GlobE E B (w.drewN n) A := h.on (bdn (Below.refl _ _) n)
theorem GlobE.gH {E : Prop} {B : Nat} {w : World} {A : Nat → Addr} (h : GlobE E B w A) : 37 < w.heap.size := Nat.lt_of_lt_of_le h.gN h.size
theorem GlobE.eForm {B : Nat} {w : World} {A : Nat → Addr} (h : GlobE True B w A) : w.cell? ⟨2, 0, none⟩ = some (errV A 6) := (h.errs trivial).var 6 _ rfl
theorem GlobE.eRange {B : Nat} {w : World} {A : Nat → Addr} (h : GlobE True B w A) : w.cell? ⟨0, 0, none⟩ = some (errV A 5) := (h.errs trivial).var 5 _ rfl
theorem GlobE.eLimit {B : Nat} {w : World} {A : Nat → Addr} (h : GlobE True B w A) : w.cell? ⟨1, 0, none⟩ = some (errV A 2) := (h.errs trivial).var 2 _ rfl

theorem open_258 : openL 258 (sealL 258 [120]) = some [120] := (openL_iff _ _ _).2 ⟨by omega, by simp, rfl⟩
theorem open_257 : openL 257 (sealL 258 [120]) = none := by
  rw [openL_none]
  rintro ⟨_, p, _, h2⟩
  have h3 := congrArg (getN · 8) h2
  simp only [sealL_head 258 [120] (by omega), sealL_head 257 p (by omega)] at h3
  omega
set_option maxRecDepth 100000 in
set_option maxHeartbeats 2000000 in
theorem fixed_any {E : Prop} (B : Nat) (A : Nat → Addr) (w : World) (hG : GlobE E B w A) :
    Calls Tryd.prog 8 #[] w fun e w' => e = .returned (.bool true) ∧ Below w.heap.size w w' := by
  have hnn : ∀ W : World, (binOp .eql 25 .nilIface .nilIface).run Tryd.prog W = .ok (.bool true) W := fun W => by kernel_rfl
  obtain ⟨T, hT⟩ : ∃ T : ByteArray, Hid (T = ⟨(sealL 258 [120]).toArray⟩) := ⟨_, Lib.hid rfl⟩
  have hTl : Hid (T.data.toList = sealL 258 [120]) := by rw [hT.out]; exact Lib.hid rfl
  have hTs : Hid (T.size = 256) := by
    have := size_list T _ hTl.out
    rw [sealL_length 258 [120] (by simp)] at this
    exact Lib.hid this
  have h1 : Hid (∀ W : World, GlobE E B W A → Calls Tryd.prog 9 #[.int .u64 258, .string ⟨#[120]⟩] W fun e w' => e = .returned (.tuple #[.string T, .nilIface]) ∧ Below W.heap.size W w') := by
    rw [hT.out]
    exact Lib.hid fun W h => seal_yes 258 (by omega) (by omega) ⟨#[120]⟩ [120] rfl (by decide) W h.nib h.gH
  have h2 : Hid (∀ W : World, Calls Tryd.prog 15 #[.string T] W fun e w' => e = .returned (.tuple #[.int .u64 258, .int .u64 258, .nilIface]) ∧ ∃ k, w' = W.drewN k) := by
    refine Lib.hid fun W => ?_
    have := ends_yes T _ hTl.out hTs.out W
    rw [sealL_head 258 [120] (by omega), sealL_tail 258 [120] (by simp) (by omega)] at this
    exact this
  have h3 : Hid (∀ W : World, GlobE E B W A → Calls Tryd.prog 11 #[.int .u64 258, .string T] W fun e w' => e = .returned (.tuple #[.string ⟨#[120]⟩, .bool true]) ∧ Below W.heap.size W w') :=
    Lib.hid fun W h => (open_any 258 (by omega) T _ hTl.out W h.nib h.gH).1 _ open_258
  have h4 : Hid (∀ W : World, GlobE E B W A → Calls Tryd.prog 11 #[.int .u64 257, .string T] W fun e w' => e = .returned (.tuple #[.string ⟨#[]⟩, .bool false]) ∧ Below W.heap.size W w') :=
    Lib.hid fun W h => (open_any 257 (by omega) T _ hTl.out W h.nib h.gH).2 open_257
  have h5 : Hid (∀ W : World, Calls Tryd.prog 12 #[.int .i64 2, .int .i64 5] W fun e w' => e = .returned (.tuple #[.int .u64 2097158, .nilIface]) ∧ W = w') :=
    Lib.hid fun W => log_yes 2 5 ⟨by omega, by omega, by omega, by omega⟩ W
  have hsz : (T.size : Int) ≤ 256 := by rw [hTs.out]; omega
  have hsz2 : ((T.size : Int) != 256) = false := by rw [hTs.out]; rfl
  have HG := Lib.hid hG
  clear hG hT hTl hTs
  go_enter Tryd.func8, Tryd.ntmps8
  go_wp2_with fail
  refine (h1.out _ HG.out).mono ?_
  rintro e w1 ⟨rfl, hb1⟩
  have HG1 := Lib.hid (HG.out.on hb1)
  have HB1 := Lib.hid hb1
  clear hb1
  go_wp2_with fail
  refine (h2.out _).mono ?_
  rintro e w2 ⟨rfl, k, rfl⟩
  have HG2 := Lib.hid (HG1.out.drewN k)
  have HB2 := Lib.hid (bdn HB1.out k)
  generalize w1.drewN k = w2 at HG2 HB2 ⊢
  go_wp2_with fail
  refine (h3.out _ HG2.out).mono ?_
  rintro e w3 ⟨rfl, hb3⟩
  have HG3 := Lib.hid (HG2.out.on hb3)
  have HB3 := Lib.hid (HB2.out.trans (hb3.mono HB2.out.size))
  clear hb3
  go_wp2_with fail
  refine (h4.out _ HG3.out).mono ?_
  rintro e w4 ⟨rfl, hb4⟩
  have HB4 := Lib.hid (HB3.out.trans (hb4.mono HB3.out.size))
  clear hb4
  go_wp2_with fail
  refine (h5.out _).mono ?_
  rintro e w5 ⟨rfl, rfl⟩
  go_wp2_with fail
  go_ret
  exact ⟨rfl, HB4.out⟩
end Go.Proofs.YtffmekcpkilkoaaDoor
