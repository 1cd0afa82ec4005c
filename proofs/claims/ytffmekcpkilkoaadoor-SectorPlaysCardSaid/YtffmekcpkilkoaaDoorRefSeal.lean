/-
  Walks over layer 7's reference: Seal.
-/
import Derived.Test.YtffmekcpkilkoaaDoorRef
import Derived.Deep.RegionWith
import Derived.Deep.DeepCutAuto
namespace Go.Proofs.YtffmekcpkilkoaaDoor
open Go.RowKit

theorem conv_made (W : World) (z : Nat) : (convert 50 9 (.slice (some ⟨W.heap.size, 0, none⟩) z z)).run Tryd.prog (W.alloc (.cells (madeCells #[.int .u8 0] z) 5)) = .ok (.string ⟨(List.replicate z 0).toArray⟩) (W.alloc (.cells (madeCells #[.int .u8 0] z) 5)) := by
  have := conv_bytes (W.alloc (.cells (madeCells #[.int .u8 0] z) 5)) W.heap.size z z _ (bytesAt_made W z _) (by rw [List.length_replicate]; omega)
  rw [List.take_of_length_le (by rw [List.length_replicate]; omega)] at this
  exact this
/-- Block b holds z zeros. -/
structure Made (b z : Nat) (w : World) : Prop where
  at_ : BytesAt w b (List.replicate z 0)
  lt : b < w.heap.size
theorem made_of {W w1 : World} {z : Nat} {e : TypeId} (hb : Below (W.alloc (.cells (madeCells #[.int .u8 0] z) e)).heap.size (W.alloc (.cells (madeCells #[.int .u8 0] z) e)) w1) : Made W.heap.size z w1 := by
  have h := bytesAt_made W z e
  have hlt : W.heap.size < (W.alloc (.cells (madeCells #[.int .u8 0] z) e)).heap.size := by simp
  exact ⟨⟨fun j hj => (hb.cell (p := ⟨W.heap.size, j, none⟩) hlt).trans (h.cell j hj), fun j hj => (hb.frozen (p := ⟨W.heap.size, j, none⟩) hlt).trans (h.free j hj)⟩, Nat.lt_of_lt_of_le hlt hb.size⟩
theorem made_drew {W w1 : World} {z : Nat} {e : TypeId} (hb : Below (W.alloc (.cells (madeCells #[.int .u8 0] z) e)).drew.heap.size (W.alloc (.cells (madeCells #[.int .u8 0] z) e)).drew w1) : Made W.heap.size z w1 := made_of (W := W) (e := e) ⟨hb.os, hb.tape, hb.output, hb.size, hb.block⟩
theorem made_next {b z : Nat} {w w1 : World} (h : Made b z w) (hb : Below w.heap.size w w1) : Made b z w1 :=
  ⟨⟨fun j hj => (hb.cell (p := ⟨b, j, none⟩) h.lt).trans (h.at_.cell j hj), fun j hj => (hb.frozen (p := ⟨b, j, none⟩) h.lt).trans (h.at_.free j hj)⟩, Nat.lt_of_lt_of_le h.lt hb.size⟩
theorem made_conv {b z : Nat} {w : World} {Z : ByteArray} (hZ : Hid ((⟨(List.replicate z 0).toArray⟩ : ByteArray) = Z)) (h : Made b z w) :
    (convert 50 9 (.slice (some ⟨b, 0, none⟩) z z)).run Tryd.prog w = .ok (.string Z) w := by
  have := conv_bytes w b z z _ h.at_ (by rw [List.length_replicate]; omega)
  rw [List.take_of_length_le (by rw [List.length_replicate]; omega), hZ.out] at this
  exact this
theorem conv_made_drew (W : World) (z : Nat) : (convert 50 9 (.slice (some ⟨W.heap.size, 0, none⟩) z z)).run Tryd.prog (W.alloc (.cells (madeCells #[.int .u8 0] z) 5)).drew = .ok (.string ⟨(List.replicate z 0).toArray⟩) (W.alloc (.cells (madeCells #[.int .u8 0] z) 5)).drew := by
  have := conv_bytes (W.alloc (.cells (madeCells #[.int .u8 0] z) 5)).drew W.heap.size z z _ (bytesAt_made W z _).drew (by rw [List.length_replicate]; omega)
  rw [List.take_of_length_le (by rw [List.length_replicate]; omega)] at this
  exact this
theorem step_alloc {w a : World} (h : Below w.heap.size w a) (o : Obj) : Below w.heap.size w (a.alloc o) := h.alloc h.size o
theorem step_drew {w a : World} (h : Below w.heap.size w a) : Below w.heap.size w a.drew := ⟨h.os, h.tape, h.output, h.size, h.block⟩
theorem step_call {B : Nat} {w a w1 : World} (h : Below w.heap.size w a) (hb : Below B a w1) (hB : B = a.heap.size) : Below w.heap.size w w1 := by
  subst hB
  exact h.trans (hb.mono h.size)
theorem low8 (x : Nat) (hx : x < 18446744073709551616) (w : World) : Calls Tryd.prog 26 #[.int .u64 x, .int .i64 8] w fun e w' => e = .returned (.string ⟨(lowL x 8).toArray⟩) ∧ Below w.heap.size w w' := low_any x 8 hx (by omega) w
theorem low4 (x : Nat) (hx : x < 18446744073709551616) (w : World) : Calls Tryd.prog 26 #[.int .u64 x, .int .i64 4] w fun e w' => e = .returned (.string ⟨(lowL x 4).toArray⟩) ∧ Below w.heap.size w w' := low_any x 4 hx (by omega) w
theorem low2 (x : Nat) (hx : x < 18446744073709551616) (w : World) : Calls Tryd.prog 26 #[.int .u64 x, .int .i64 2] w fun e w' => e = .returned (.string ⟨(lowL x 2).toArray⟩) ∧ Below w.heap.size w w' := low_any x 2 hx (by omega) w
set_option maxRecDepth 100000 in
set_option maxHeartbeats 4000000 in
theorem sealr_yes (stamp : Nat) (hs : stamp < 18446744073709551616) (hs0 : 0 < stamp) (s : ByteArray) (hp : s.size ≤ 234) (w : World) :
    Calls Tryd.prog 13 #[.int .u64 stamp, .string s] w fun e w' => e = .returned (.tuple #[.string ⟨(sealL stamp s.data.toList).toArray⟩, .int .i64 0]) ∧ Below w.heap.size w w' := by
  have h1 : ((stamp : Int) == 0) = false := beq_eq_false_iff_ne.2 (by omega)
  have h2 : ¬ (234 : Int) < (s.size : Int) := by omega
  obtain ⟨z, hz⟩ : ∃ z : Nat, Hid (234 - s.size = z) := ⟨_, Lib.hid rfl⟩
  have hwz : IntKind.i64.wrap (234 - (s.size : Int)) = (z : Int) := by rw [IntWalk.i64_in _ (by omega)]; have := hz.out; omega
  have hmk : ∀ W : World, (Instr.makeSlice 50 (.int .i64 z) (.int .i64 z)).run Tryd.prog W = .ok (.slice (some ⟨W.heap.size, 0, none⟩) z z) (W.alloc (.cells (madeCells #[.int .u8 0] z) 5)) :=
    fun W => run_make_row' (P := Tryd.prog) 50 5 (.int .u8 0) 1 Tryd.underlying50 (by kernel_rfl) rfl .i64 .i64 z (by have := hz.out; omega) (by have := hz.out; omega) W
  have hw64 : IntKind.u64.wrap (s.size : Int) = (s.size : Int) := by rw [IntKind.wrap_u64]; omega
  have hcz := fun W => conv_made W z
  have hczd := fun W => conv_made_drew W z
  obtain ⟨A8, hA8⟩ : ∃ t : ByteArray, Hid ((⟨(lowL stamp 8).toArray⟩ : ByteArray) = t) := ⟨_, Lib.hid rfl⟩
  obtain ⟨A2, hA2⟩ : ∃ t : ByteArray, Hid ((⟨(lowL s.size 2).toArray⟩ : ByteArray) = t) := ⟨_, Lib.hid rfl⟩
  obtain ⟨Z, hZ⟩ : ∃ t : ByteArray, Hid ((⟨(List.replicate z 0).toArray⟩ : ByteArray) = t) := ⟨_, Lib.hid rfl⟩
  have L1 := hide fun (W : World) => low8 stamp hs W
  have L2 := hide fun (W : World) => low2 s.size (by omega) W
  rw [hA8.out] at L1
  rw [hA2.out] at L2
  rw [hZ.out] at hcz hczd
  have z8 : A8.size ≤ 8 := by rw [← hA8.out]; show (lowL stamp 8).toArray.size ≤ 8; simp [lowL_length]
  have z2 : A2.size ≤ 2 := by rw [← hA2.out]; show (lowL s.size 2).toArray.size ≤ 2; simp [lowL_length]
  have zZ : Z.size ≤ 234 := by rw [← hZ.out]; show (List.replicate z (0 : UInt8)).toArray.size ≤ 234; have := hz.out; simp; omega
  go_enter Tryd.func13, Tryd.ntmps13
  go_upto_region 5 with fail
  go_cut [6] (fun s6 wx => s6 = .string (A8 ++ A2 ++ s ++ Z) ∧ Hid (Below w.heap.size w wx))
  case first =>
    go_region_with (first | (go_at_call 26; first | ((with_reducible refine (unhide L1 _).mono ?_); rintro e w' ⟨rfl, hb⟩; first | (have hM := made_drew hb; have hq := made_conv hZ hM) | (have hM := made_of hb; have hq := made_conv hZ hM) | (have hM2 := made_next ‹Made _ z _› hb; have hq2 := made_conv hZ hM2) | skip) | ((with_reducible refine (unhide L2 _).mono ?_); rintro e w' ⟨rfl, hb⟩; first | (have hM := made_drew hb; have hq := made_conv hZ hM) | (have hM := made_of hb; have hq := made_conv hZ hM) | (have hM2 := made_next ‹Made _ z _› hb; have hq2 := made_conv hZ hM2) | skip)))
    all_goals
      go_wp2_with fail
      go_meet
      refine ⟨rfl, Lib.hid ?_⟩
      repeat (first | exact Below.refl _ _ | refine step_alloc ?_ _ | refine step_drew ?_ | (refine step_call ?_ (by assumption) (by first | rfl | simp)))
  case rest =>
    obtain ⟨rfl, HB⟩ := hcut
    have hH : Hid (A8 ++ A2 ++ s ++ Z = ⟨(headL stamp s.data.toList).toArray⟩) := by
      have : A8 ++ A2 ++ s ++ Z = ⟨(headL stamp s.data.toList).toArray⟩ := by
        apply Go.WideShapes.bytes_inj
        rw [← hA8.out, ← hA2.out, ← hZ.out, ← hz.out]
        simp [ByteArray.data_append, Array.toList_append, headL, ← size_list s _ rfl]
      exact Lib.hid this
    have hpl : s.data.toList.length ≤ 234 := by rw [← size_list s _ rfl]; exact hp
    have hhl := headL_length stamp s.data.toList hpl
    obtain ⟨H0, hH0⟩ : ∃ t : ByteArray, Hid (t = A8 ++ A2 ++ s ++ Z) := ⟨_, Lib.hid rfl⟩
    rw [← hH0.out]
    rw [← hH0.out] at hH
    have hHs : H0.size ≤ 244 := by rw [hH.out]; show (headL stamp s.data.toList).toArray.size ≤ 244; simp [hhl]
    have hS := hide fun (W : World) => sumr_any H0 (Nat.le_trans hHs (by decide)) W
    obtain ⟨c, hc⟩ : ∃ c : Nat, Hid ((Crc.sum (headL stamp s.data.toList)).toNat = c) := ⟨_, Lib.hid rfl⟩
    have e1 : H0.data.toList = headL stamp s.data.toList := by rw [hH.out]
    rw [e1, hc.out] at hS
    have hcl : c < 4294967296 := by rw [← hc.out]; exact Crc.toNat_lt _
    have hcw : IntKind.u64.wrap (c : Int) = (c : Int) := by rw [IntKind.wrap_u64]; omega
    obtain ⟨C4, hC4⟩ : ∃ t : ByteArray, Hid ((⟨(lowL c 4).toArray⟩ : ByteArray) = t) := ⟨_, Lib.hid rfl⟩
    have L4 := hide fun (W : World) => low4 c (by omega) W
    rw [hC4.out] at L4
    have z4 : C4.size ≤ 4 := by rw [← hC4.out]; show (lowL c 4).toArray.size ≤ 4; simp [lowL_length]
    have hfin : Hid (H0 ++ C4 ++ A8 = ⟨(sealL stamp s.data.toList).toArray⟩) := by
      have : H0 ++ C4 ++ A8 = ⟨(sealL stamp s.data.toList).toArray⟩ := by
        apply Go.WideShapes.bytes_inj
        rw [hH.out, ← hC4.out, ← hA8.out, ← hc.out]
        simp [ByteArray.data_append, sealL]
      exact Lib.hid this
    clear hH hpl hhl e1 hcz hczd hmk hwz hw64 hz hA8 hA2 hZ hH0 hc hC4
    go_wp2_with fail
    refine (unhide hS _).mono ?_
    rintro e w9 ⟨rfl, rfl⟩
    go_wp2_with fail
    refine (unhide L4 _).mono ?_
    rintro e w2 ⟨rfl, hb2⟩
    have HB2 := Lib.hid (HB.out.trans (hb2.mono HB.out.size))
    clear hb2
    go_wp2_with fail
    refine (unhide L1 _).mono ?_
    rintro e w3 ⟨rfl, hb3⟩
    have HB3 := Lib.hid (HB2.out.trans (hb3.mono HB2.out.size))
    clear hb3
    go_wp2_with fail
    go_ret2
    exact ⟨congrArg (fun t : ByteArray => Ending.returned (.tuple #[.string t, .int .i64 0])) hfin.out, HB3.out⟩
/-- Open of the reference, whatever the text. -/
theorem sealr_ok (stamp : Nat) (hs : stamp < 18446744073709551616) (hs0 : 0 < stamp) (s : ByteArray) (hp : s.size ≤ 234) (T : ByteArray) (hT : Hid (T = ⟨(sealL stamp s.data.toList).toArray⟩)) (w : World) :
    Calls Tryd.prog 13 #[.int .u64 stamp, .string s] w fun e w' => e = .returned (.tuple #[.string T, .int .i64 0]) ∧ Below w.heap.size w w' := by
  rw [hT.out]
  exact sealr_yes stamp hs hs0 s hp w
end Go.Proofs.YtffmekcpkilkoaaDoor
