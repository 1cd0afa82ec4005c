/-
  Proved: for every input whose reading is of bulk at most 1048576 the statement KeysHeads returns true and leaves its arguments as they were. Conditions: those of the given row alone.
-/
import Derived.Test.YtfgkgehlokabgaaFrame
import Derived.ChangeSlices
import Derived.Carry
import Derived.WideKeyArgs
import Derived.Test.YtfgkgehlokabgaaParts
import Derived.Test.YtfgkgehlokabgaaIn
import Derived.Test.YtfgkgehlokabgaaHeads
namespace Go.Proofs.Ytfgkgehlokabgaa.lawKeysHeadsUpto
open Go.ChangeShapes Go.WideShapes Go.ChangeAt Go.RowKit

theorem laidOut : laidOutB Try.prog = true := by kernel_rfl

set_option maxRecDepth 100000 in
theorem contract (H : Type) (enc : TypeId × Value → H) (W : World) (base : Nat) (args : Array Value) (ds gs : List (DataW H)) (before : List MemPlace)
    (hval : ∀ (j : Nat) t v, Try.f3.params[j]? = some t → args[j]? = some v → Value.okWide Try.prog W .any base t v)
    (hW : DataW.Whole enc Try.prog Try.f3.params.toList Rows.keysHeadsSpec.vars false W args.toList ds gs before)
    (hreach : (DataW.weightsEach Try.prog (Try.f3.params.toList ++ (Rows.OpenSpec.upto Rows.keysHeadsSpec).bare.plain.varTypes Try.prog) (ds ++ gs)).all (· ≤ reachBytes) = true) (hbulk : Rows.uptoBulkAll ds ≤ 1048576) :
    Calls Try.prog 3 args W fun e W' => ∃ v, e = .returned v ∧ Rows.keysHeadsSpec.post enc Try.prog Try.f3 false true false false W args v W' := by
  have hW' := hW
  obtain ⟨p, q, hA0, hV, rfl, hfz, hnd⟩ := hW
  have hA : DataW.TrodAll enc Try.prog W 0 (fun _ => true) true Try.f3.params.toList args.toList ds p := hA0
  rw [Try.params3] at hA hval
  obtain ⟨v0, vs0, d0, ds0, p0, q0, hargs, rfl, rfl, h0, r0⟩ := trodAll_cons hA
  obtain ⟨v1, vs1, d1, ds1, p1, q1, rfl, rfl, rfl, h1, r1⟩ := trodAll_cons r0
  obtain ⟨v2, vs2, d2, ds2, p2, q2, rfl, rfl, rfl, h2, r2⟩ := trodAll_cons r1
  obtain ⟨v3, vs3, d3, ds3, p3, q3, rfl, rfl, rfl, h3, r3⟩ := trodAll_cons r2
  obtain ⟨rfl, rfl, rfl⟩ := trodAll_nil r3
  obtain rfl : args = #[v0, v1, v2, v3] := by cases args; simp_all
  obtain ⟨rfl, rfl⟩ := trodVars_none hV
  obtain ⟨ad0, n0, c0, rfl⟩ := okWide_slice Try.underlying22 (hval 0 22 v0 rfl rfl)
  have h0k := h0
  obtain ⟨ad1, n1, c1, rfl⟩ := okWide_slice Try.underlying22 (hval 1 22 v1 rfl rfl)
  have h1k := h1
  obtain ⟨x2, rfl, rfl, rfl, wf2⟩ := Go.ChangeMaps.open_string Try.underlying9 (hval 2 9 v2 rfl rfl) h2
  obtain ⟨x3, rfl, rfl, rfl, wf3⟩ := Go.ChangeMaps.open_string Try.underlying9 (hval 3 9 v3 rfl rfl) h3
  clear hA0
  have hr2 : x2.size ≤ 140737488351232 := by have := reach_string hreach 2 (t := 9) (l := x2.data.toList) (by kernel_rfl) rfl; simpa using this
  have hr3 : x3.size ≤ 140737488351232 := by have := reach_string hreach 3 (t := 9) (l := x3.data.toList) (by kernel_rfl) rfl; simpa using this
  have hlt0 : ∀ x ∈ p0, x.block < W.heap.size := fun x hx => hW'.lt x (by simp [hx])
  have hlt1 : ∀ x ∈ p1, x.block < W.heap.size := fun x hx => hW'.lt x (by simp [hx])
  have walk : Calls Try.prog 3 #[.slice ad0 n0 c0, .slice ad1 n1 c1, .string x2, .string x3] W fun e w' => e = .returned (.bool true) ∧ Below W.heap.size W w' := by
    simp only [Rows.uptoBulkAll] at hbulk
    obtain ⟨fuel0, hf0⟩ := h0k
    obtain ⟨fuel1, hf1⟩ := h1k
    obtain ⟨_, L0, hI0⟩ := in_of_trod hf0 hlt0 (by omega)
    obtain ⟨hc1, L1, hI1⟩ := in_of_trod hf1 hlt1 (by omega)
    exact heads_law _ _ _ _ _ _ L0 L1 x2 x3 hc1 (Nat.le_trans hr2 (by decide)) W hI0 hI1
  refine walk.mono fun e W' ⟨he, hb⟩ => ?_
  subst he
  exact ⟨_, rfl, post_of_below (pa := p0 ++ (p1 ++ ([] ++ ([] ++ ([]))))) (pv := []) hW' (fun _ _ _ => trodAll_cons_mk (shut_bool Try.underlying4 _) trodAll_mk0)
    (fun sp hsp => trodAll_cons_mk (WideElems.Trod_stays laidOut (by kernel_rfl) (of_decide_eq_true (by kernel_rfl)) h0k (fun x hx => hb.same (hlt0 x hx)) (fun x hx => hsp x (by simp [hx]))) (trodAll_cons_mk (WideElems.Trod_stays laidOut (by kernel_rfl) (of_decide_eq_true (by kernel_rfl)) h1k (fun x hx => hb.same (hlt1 x hx)) (fun x hx => hsp x (by simp [hx]))) (trodAll_cons_mk (Go.ChangeMaps.shut_string Try.underlying9 wf2) (trodAll_cons_mk (Go.ChangeMaps.shut_string Try.underlying9 wf3) trodAll_mk0))))
    (fun _ _ => rfl) (by simp) hb (ok_one (by kernel_rfl) rfl (okWide_bool_mk Try.underlying4 _))⟩

def wit : Array Value := #[.slice none 0 0, .slice none 0 0, .string ⟨#[]⟩, .string ⟨#[]⟩]
theorem reads (os : Os) {H : Type} (enc : TypeId × Value → H) : ∃ places, DataW.whole enc Try.prog (((World.holding Try.prog os ⟨#[], #[], []⟩).forCall (fun _ _ => 0) ⟨#[], wit, []⟩).memory) Try.f3.params.toList Rows.keysHeadsSpec.vars false wit.toList 8 = some ([.nil, .nil, .lit (.string []), .lit (.string [])], [], places) :=
  ⟨[], by kernel_rfl⟩

set_option maxRecDepth 100000 in
theorem lifted (os : Os) (started : os.Started) (H : Type) (enc : TypeId × Value → H) (F : Stop.Interp) :
    ReturnsInHanded {} Try.checked os 3 .any ((Rows.OpenSpec.upto Rows.keysHeadsSpec).preRow enc Try.prog Try.f3 Rows.keysHeadsUptoRow.domain false Rows.keysHeadsUptoRow.laid) (((Rows.OpenSpec.upto Rows.keysHeadsSpec).at F).post enc Try.prog Try.f3 false true false false) := by
  obtain ⟨places, hx⟩ := reads os enc
  refine returnsInHanded_of_row (C := Try.checked) (s := (Rows.OpenSpec.upto Rows.keysHeadsSpec)) own started (by kernel_rfl) Try.func3
    (witness_row_at (enc := enc) (C := Try.checked) false (World.holding Try.prog os ⟨#[], #[], []⟩) wit rfl (by kernel_rfl) (by kernel_rfl) (by kernel_rfl)
      (OpenSpec.preRow_of_cond 8 hx (by kernel_rfl) (fun k hk => by cases hk; kernel_rfl) (by kernel_rfl) (laidMet_nil _ _))) ?_
  intro W base args ds gs before hval hW _ hcond hreach hL _ _
  have hgs : gs = [] := by
    obtain ⟨_, _, _, hV, _, _, _⟩ := hW
    exact (trodVars_none hV).1
  subst hgs
  have hk : Rows.uptoSmall H (ds ++ []) = true := hcond _ rfl
  have hbulk : Rows.uptoBulkAll ds ≤ 1048576 := by have := of_decide_eq_true hk; simpa using this
  exact contract H enc W base args ds [] before hval hW hreach hbulk

theorem said : Rows.KeysHeadsUptoSaid :=
  OpenClaim.holds_of_cond 3 Try.f3 rfl rfl rfl rfl rfl rfl rfl ⟨rfl, rfl, rfl, rfl, rfl⟩ rfl rfl rfl rfl rfl (by kernel_rfl) Try.func3 (by kernel_rfl)
    (of_decide_eq_true (by kernel_rfl)) (by unfold Func.isWrapper; first | (rw [if_pos (by decide +kernel)]; kernel_rfl) | (rw [if_neg (by decide +kernel)]; exact ⟨rfl, rfl⟩))
    (fun os started H enc _ F => by rw [OpenClaim.pre_eq_preRow]; exact lifted os started H enc F)
#print axioms said
end Go.Proofs.Ytfgkgehlokabgaa.lawKeysHeadsUpto
