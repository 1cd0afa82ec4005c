/-
  Proved: for every input whose reading is of bulk at most 1048576 the statement KeysMemory returns true and leaves its arguments as they were. Conditions: those of the given row and card alone.
-/
import Derived.Test.YtfgkgehlokabgaaDoorCards
import Derived.Test.YtfgkgehlokabgaaDoorTie
import Derived.Test.YtfgkgehlokabgaaDoorFrame
import Derived.ChangeSlices
import Derived.Carry
import Derived.WideKeyArgs
import Derived.Test.YtfgkgehlokabgaaDoorParts
import Derived.Test.YtfgkgehlokabgaaDoorIn
import Derived.Test.YtfgkgehlokabgaaDoorMemLaw
namespace Go.Proofs.YtfgkgehlokabgaaDoor.lawKeysMemoryUpto
open Go.ChangeShapes Go.WideShapes Go.ChangeAt Go.RowKit

theorem laidOut : laidOutB Tryd.prog = true := by kernel_rfl
def names : List (String × List UInt8) := [("remit/api.ErrForm", [114, 101, 109, 105, 116, 58, 32, 102, 111, 114, 109])]
theorem laid_eq : (Rows.keysMemoryUptoRow.laid : List (String × DataW Unit)) = names.map (sentD "*errors.errorString") := rfl

set_option maxRecDepth 100000 in
theorem contract (H : Type) (enc : TypeId × Value → H) (W : World) (base : Nat) (args : Array Value) (ds gs : List (DataW H)) (before : List MemPlace)
    (hval : ∀ (j : Nat) t v, Tryd.f5.params[j]? = some t → args[j]? = some v → Value.okWide Tryd.prog W .any base t v)
    (hW : DataW.Whole enc Tryd.prog Tryd.f5.params.toList Rows.keysMemorySpec.vars false W args.toList ds gs before)
    (_hreach : (DataW.weightsEach Tryd.prog (Tryd.f5.params.toList ++ (Rows.OpenSpec.upto Rows.keysMemorySpec).bare.plain.varTypes Tryd.prog) (ds ++ gs)).all (· ≤ reachBytes) = true) (hL : laidMetH Tryd.prog Rows.keysMemoryUptoRow.laid W) (hbulk : Rows.uptoBulkAll ds ≤ 1048576) :
    Calls Tryd.prog 5 args W fun e W' => ∃ v, e = .returned v ∧ Rows.keysMemorySpec.post enc Tryd.prog Tryd.f5 false true false false W args v W' := by
  have hW' := hW
  obtain ⟨p, q, hA0, hV, rfl, hfz, hnd⟩ := hW
  have hA : DataW.TrodAll enc Tryd.prog W 0 (fun _ => true) true Tryd.f5.params.toList args.toList ds p := hA0
  rw [Tryd.params5] at hA hval
  obtain ⟨v0, vs0, d0, ds0, p0, q0, hargs, rfl, rfl, h0, r0⟩ := trodAll_cons hA
  obtain ⟨v1, vs1, d1, ds1, p1, q1, rfl, rfl, rfl, h1, r1⟩ := trodAll_cons r0
  obtain ⟨rfl, rfl, rfl⟩ := trodAll_nil r1
  obtain rfl : args = #[v0, v1] := by cases args; simp_all
  obtain ⟨rfl, rfl⟩ := trodVars_none hV
  obtain ⟨ad0, n0, c0, rfl⟩ := okWide_slice Tryd.underlying22 (hval 0 22 v0 rfl rfl)
  have h0k := h0
  obtain ⟨ad1, n1, c1, rfl⟩ := okWide_slice Tryd.underlying22 (hval 1 22 v1 rfl rfl)
  have h1k := h1
  clear hA0
  have hlt0 : ∀ x ∈ p0, x.block < W.heap.size := fun x hx => hW'.lt x (by simp [hx])
  have hlt1 : ∀ x ∈ p1, x.block < W.heap.size := fun x hx => hW'.lt x (by simp [hx])
  rw [laid_eq, MakeChecks.laidMetH_plain _ _ _ (by kernel_rfl)] at hL
  obtain ⟨ms, f, F⟩ := errFacts
  obtain ⟨al, hS⟩ := sents_of_laid F names [0] hL (by kernel_rfl) (fun g hg => by
    have hall : ∀ g ∈ [0], (Tryd.prog.globals[g]?).map (·.type) = some 25 := by
      intro g hg
      have := List.all_eq_true.1 (show ([0].all fun g => decide ((Tryd.prog.globals[g]?).map (·.type) = some 25)) = true by kernel_rfl) g hg
      exact of_decide_eq_true this
    exact hall g hg)
  obtain ⟨a, haE⟩ : ∃ a : Addr, W.cell? ⟨0, 0, none⟩ = some (.iface 59 (.pointer (some a))) ∧ (∃ c t, W.heap[a.block]? = some (.cells c t (0, 0))) := by
    match al, hS.len with
    | [a], _ =>
      obtain ⟨_, _, hs⟩ := hS.at_ 0 0 a rfl rfl
      exact ⟨a, hs.var, hs.row⟩
  clear hS
  have walk : Calls Tryd.prog 5 #[.slice ad0 n0 c0, .slice ad1 n1 c1] W fun e w' => e = .returned (.bool true) ∧ Below W.heap.size W w' := by
    simp only [Rows.uptoBulkAll] at hbulk
    obtain ⟨fuel0, hf0⟩ := h0k
    obtain ⟨fuel1, hf1⟩ := h1k
    obtain ⟨_, A, hA, hkA⟩ := in_of_trod_ks hf0 hlt0 (by omega)
    obtain ⟨_, B, hB⟩ := in_of_trod hf1 hlt1 (by omega)
    exact memory_law _ _ _ _ _ _ A B a W hA hB (by omega) (none_of_trod hf0) haE.1
  refine walk.mono fun e W' ⟨he, hb⟩ => ?_
  subst he
  exact ⟨_, rfl, post_of_below (pa := p0 ++ (p1 ++ ([]))) (pv := []) hW' (fun _ _ _ => trodAll_cons_mk (shut_bool Tryd.underlying4 _) trodAll_mk0)
    (fun sp hsp => trodAll_cons_mk (WideElems.Trod_stays laidOut (by kernel_rfl) (of_decide_eq_true (by kernel_rfl)) h0k (fun x hx => hb.same (hlt0 x hx)) (fun x hx => hsp x (by simp [hx]))) (trodAll_cons_mk (WideElems.Trod_stays laidOut (by kernel_rfl) (of_decide_eq_true (by kernel_rfl)) h1k (fun x hx => hb.same (hlt1 x hx)) (fun x hx => hsp x (by simp [hx]))) trodAll_mk0))
    (fun _ _ => rfl) (by simp) hb (ok_one (by kernel_rfl) rfl (okWide_bool_mk Tryd.underlying4 _))⟩

def wit : Array Value := #[.slice none 0 0, .slice none 0 0]
theorem laid_met (os : Os) : laidMet Tryd.prog Rows.keysMemoryUptoRow.laid (((World.doorLaid Tryd.prog 712 os).forCall (fun _ _ => 0) ⟨#[], wit, []⟩).memory) :=
  laidMet_of_run' 8 (by kernel_rfl) (by kernel_rfl)
theorem reads (os : Os) {H : Type} (enc : TypeId × Value → H) : ∃ places, DataW.whole enc Tryd.prog (((World.doorLaid Tryd.prog 712 os).forCall (fun _ _ => 0) ⟨#[], wit, []⟩).memory) Tryd.f5.params.toList Rows.keysMemorySpec.vars false wit.toList 8 = some ([.nil, .nil], [], places) :=
  ⟨[], by kernel_rfl⟩

set_option maxRecDepth 100000 in
theorem lifted (os : Os) (started : os.Started) (H : Type) (enc : TypeId × Value → H) (F : Stop.Interp) :
    ReturnsInHanded {} Tryd.checked os 5 .any ((Rows.OpenSpec.upto Rows.keysMemorySpec).preRow enc Tryd.prog Tryd.f5 Rows.keysMemoryUptoRow.domain false Rows.keysMemoryUptoRow.laid) (((Rows.OpenSpec.upto Rows.keysMemorySpec).at F).post enc Tryd.prog Tryd.f5 false true false false) := by
  obtain ⟨places, hx⟩ := reads os enc
  refine returnsInHanded_of_row (C := Tryd.checked) (s := (Rows.OpenSpec.upto Rows.keysMemorySpec)) own started (by kernel_rfl) Tryd.func5
    (witness_row_atRef (enc := enc) (C := Tryd.checked) false (World.doorLaid Tryd.prog 712 os) wit rfl (by kernel_rfl) (by kernel_rfl) (by kernel_rfl)
      (OpenSpec.preRow_of_cond 8 hx (by kernel_rfl) (fun k hk => by cases hk; kernel_rfl) (by kernel_rfl) (laid_met os))) ?_
  intro W base args ds gs before hval hW _ hcond hreach hL _ _
  have hgs : gs = [] := by
    obtain ⟨_, _, _, hV, _, _, _⟩ := hW
    exact (trodVars_none hV).1
  subst hgs
  have hk : Rows.uptoSmall H (ds ++ []) = true := hcond _ rfl
  have hbulk : Rows.uptoBulkAll ds ≤ 1048576 := by have := of_decide_eq_true hk; simpa using this
  exact contract H enc W base args ds [] before hval hW hreach hL hbulk

theorem said : Rows.KeysMemoryUptoSaid :=
  OpenClaim.holds_of_cond 5 Tryd.f5 rfl rfl rfl rfl rfl rfl rfl ⟨rfl, rfl, rfl, rfl, rfl⟩ rfl rfl rfl rfl rfl (by kernel_rfl) Tryd.func5 (by kernel_rfl)
    (of_decide_eq_true (by kernel_rfl)) (by unfold Func.isWrapper; first | (rw [if_pos (by decide +kernel)]; kernel_rfl) | (rw [if_neg (by decide +kernel)]; exact ⟨rfl, rfl⟩))
    (fun os started H enc _ F => by rw [OpenClaim.pre_eq_preRow]; exact lifted os started H enc F)

theorem plain (f : FuncId) (fn : Func) (hf : Tryd.pinned.checked.prog.funcNamed "remit/remitlaw02.KeysMemory" = some f) (hfn : Tryd.pinned.checked.prog.funcs[f]? = some fn) :
    true = Tryd.pinned.checked.prog.looks [] ∧ ∀ (j : Nat) t, fn.params[j]? = some t → Tryd.pinned.checked.prog.wantsStandIn t = false := by
  obtain rfl : f = 5 := Option.some.inj ((show Tryd.prog.funcNamed "remit/remitlaw02.KeysMemory" = some 5 by kernel_rfl).symm.trans hf) |>.symm
  obtain rfl : fn = Tryd.f5 := (Option.some.inj (Tryd.func5.symm.trans hfn)).symm
  refine ⟨by kernel_rfl, fun j t ht => ?_⟩
  rw [Tryd.params5] at ht
  have hm : t ∈ [22, 22] := by simpa using Array.mem_of_getElem? ht
  have hall : ([22, 22].all fun u => !Tryd.prog.wantsStandIn u) = true := by kernel_rfl
  have h1 : Tryd.prog.wantsStandIn t = false := by simpa using List.all_eq_true.1 hall t hm
  exact h1

theorem card : Rows.KeysMemoryUptoCardSaid :=
  Claim7.holds_tied_plain_at .later [] _ _ _ _ said (fun _ h => by cases h) (by kernel_rfl) (fun _ h => by cases h) keysMemoryUpto_row_tie rfl ⟨rfl, rfl⟩ (by kernel_rfl) rfl plain (by kernel_rfl)
#print axioms card
end Go.Proofs.YtfgkgehlokabgaaDoor.lawKeysMemoryUpto
