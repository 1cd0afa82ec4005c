/-
  Proved: for every input the statement PhasesWays returns true and leaves its arguments as they were. Conditions: those of the given row alone.
-/
import Derived.Test.YtfemggdbgibgaaaFrame
import Derived.Test.YtfemggdbgibgaaaWays
import Derived.ChangeSlices
import Derived.Carry
import Derived.WideKeyArgs
namespace Go.Proofs.Ytfemggdbgibgaaa.lawPhasesWays
open Go.ChangeShapes Go.WideShapes Go.ChangeAt Go.RowKit

theorem own : ownKnob Try.prog.godebug = none := by kernel_rfl
theorem laidOut : laidOutB Try.prog = true := by kernel_rfl
theorem cells3 : Try.prog.cellsOf 3 = 1 := by kernel_rfl

theorem ways_any (H : Type) (enc : TypeId × Value → H) (W : World) (fuel : Nat) (ad : Option Addr) (n cap : Nat) (d : DataW H) (ps : List MemPlace)
    (h : DataW.trod enc Try.prog W 0 (fun _ => true) true fuel 38 (Value.slice ad n cap).cells.toList = some (d, ps)) (hlt : ∀ x ∈ ps, x.block < W.heap.size) :
    Calls Try.prog 5 #[.slice ad n cap] W fun e w' => e = .returned (.bool true) ∧ Below W.heap.size W w' := by
  rcases open_ints Try.underlying38 Try.underlying3 cells3 h with ⟨hcs, hx⟩ | ⟨a, len', cap', zs, hcs, _, hl, hm, hz, hx, hcell, hwz⟩
  · simp [Value.cells] at hcs
    obtain ⟨rfl, rfl, rfl⟩ := hcs
    exact ways_zero _ _ W
  · simp [Value.cells] at hcs
    obtain ⟨rfl, rfl, rfl⟩ := hcs
    simp only [Prod.mk.injEq] at hx
    obtain ⟨rfl, rfl⟩ := hx
    simp only [if_true] at hz
    by_cases h0 : n = 0
    · subst h0
      exact ways_zero _ _ W
    · obtain ⟨b, off, rfl, hc⟩ := ints_at hcell (by omega)
      have hb : b < W.heap.size := hlt (.cell b off) (MemPlace.mem_row.2 ⟨0, by omega, by simp⟩)
      exact ways_some b off n cap (fun i => zs.getD i 0) (by unfold maxLen at hm; omega) W hb (fun i hi => hc i (by omega))

set_option maxRecDepth 100000 in
theorem lifted (os : Os) (started : os.Started) (H : Type) (enc : TypeId × Value → H) :
    ReturnsInHanded {} Try.checked os 5 .any (Rows.phasesWaysSpec.pre6 enc Try.prog Try.f5 Rows.phasesWaysRow.domain false) (Rows.phasesWaysSpec.post enc Try.prog Try.f5 false true false false) := by
  refine returnsInHanded_of_change (C := Try.checked) own started (by kernel_rfl) Try.func5
    (ChangeSpec.witness6 (enc := enc) (C := Try.checked) false ⟨#[], #[.slice none 0 0], []⟩ 8 (by kernel_rfl) (by kernel_rfl) (by kernel_rfl) (by kernel_rfl)) ?_
  intro W base args ds gs before hval0 hW hcnd _
  have hval : ∀ (j : Nat) t v, Try.f5.params[j]? = some t → args[j]? = some v → Value.okWide Try.prog W .any base t v := hval0
  have hW' := hW
  obtain ⟨p, q, hA0, hV, rfl, hfz, hnd⟩ := hW
  have hA : DataW.TrodAll enc Try.prog W 0 (fun _ => true) true Try.f5.params.toList args.toList ds p := hA0
  rw [Try.params5] at hA hval
  obtain ⟨v0, d0, rfl, rfl, h0⟩ := trodAll_one hA
  obtain ⟨rfl, rfl⟩ := trodVars_none hV
  obtain ⟨ad, n, cap, rfl⟩ := okWide_slice Try.underlying38 (hval 0 38 v0 rfl rfl)
  have h0k := h0
  obtain ⟨fuel, hf⟩ := h0
  clear hA0 hval0
  simp only [List.append_nil] at hW'
  have hlt : ∀ x ∈ p, x.block < W.heap.size := fun x hx => hW'.lt x hx
  refine (ways_any H enc W fuel ad n cap d0 p hf hlt).mono fun e W' ⟨he, hb⟩ => ?_
  subst he
  exact ⟨_, rfl, post_of_below (pa := p) (pv := []) hW' (fun _ _ _ => (trodAll_cons_mk (shut_bool Try.underlying4 _) trodAll_mk0))
    (fun sp hsp => trodAll_mk1 (WideElems.Trod_stays laidOut (by kernel_rfl) (of_decide_eq_true (by kernel_rfl)) h0k (fun x hx => hb.same (hlt x hx)) (fun x hx => hsp x hx))) (fun _ _ => rfl) (by simp)
    hb (ok_one (by kernel_rfl) rfl (okWide_bool_mk Try.underlying4 _))⟩

theorem over : Rows.phasesWaysRow.holds Try.pinned (OpenSpec.ofChange Rows.phasesWaysSpec) :=
  OpenClaim.holds_of_wide 5 Try.f5 rfl rfl rfl rfl rfl rfl rfl ⟨rfl, rfl, rfl, rfl, rfl⟩ rfl rfl rfl rfl rfl (by kernel_rfl) Try.func5 (by kernel_rfl)
    (of_decide_eq_true (by kernel_rfl)) (by unfold Func.isWrapper; first | (rw [if_pos (by decide +kernel)]; kernel_rfl) | (rw [if_neg (by decide +kernel)]; exact ⟨rfl, rfl⟩))
    (fun os started H enc _ => lifted os started H enc)

/-- The statement. -/
theorem proved : Rows.PhasesWaysSaid :=
  over
#print axioms proved
end Go.Proofs.Ytfemggdbgibgaaa.lawPhasesWays
