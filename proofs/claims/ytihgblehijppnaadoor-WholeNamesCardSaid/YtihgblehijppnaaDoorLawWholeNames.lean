/-
  Proved: for every input the statement WholeNames returns true and leaves its arguments as they were. Conditions: those of the given row and card alone.
-/
import Derived.Test.YtihgblehijppnaaDoorCards
import Derived.Test.YtihgblehijppnaaDoorTie
import Derived.Test.YtihgblehijppnaaDoorFrame
import Derived.Test.YtihgblehijppnaaDoorWalk
namespace Go.Proofs.YtihgblehijppnaaDoor.lawWholeNames
open Go.ChangeShapes Go.WideShapes Go.ChangeAt Go.RowKit

def names : List (String × List UInt8) := [("remit/api.ErrShort", [114, 101, 109, 105, 116, 58, 32, 116, 111, 111, 32, 115, 104, 111, 114, 116]), ("remit/api.ErrVarint", [114, 101, 109, 105, 116, 58, 32, 118, 97, 114, 105, 110, 116]), ("remit/api.ErrLimit", [114, 101, 109, 105, 116, 58, 32, 108, 105, 109, 105, 116]), ("remit/api.ErrOrder", [114, 101, 109, 105, 116, 58, 32, 111, 114, 100, 101, 114]), ("remit/api.ErrTail", [114, 101, 109, 105, 116, 58, 32, 116, 97, 105, 108]), ("remit/api.ErrRange", [114, 101, 109, 105, 116, 58, 32, 114, 97, 110, 103, 101]), ("remit/api.ErrForm", [114, 101, 109, 105, 116, 58, 32, 102, 111, 114, 109]), ("remit/api.ErrDigits", [114, 101, 109, 105, 116, 58, 32, 99, 104, 101, 99, 107, 32, 100, 105, 103, 105, 116, 115]), ("remit/api.ErrAmount", [114, 101, 109, 105, 116, 58, 32, 97, 109, 111, 117, 110, 116]), ("remit/api.ErrOverflow", [114, 101, 109, 105, 116, 58, 32, 111, 118, 101, 114, 102, 108, 111, 119]), ("remit/api.ErrCurrency", [114, 101, 109, 105, 116, 58, 32, 99, 117, 114, 114, 101, 110, 99, 121]), ("remit/api.ErrDown", [114, 101, 109, 105, 116, 58, 32, 100, 111, 119, 110]), ("remit/api.ErrSmall", [114, 101, 109, 105, 116, 58, 32, 115, 109, 97, 108, 108]), ("remit/api.ErrBlank", [114, 101, 109, 105, 116, 58, 32, 98, 108, 97, 110, 107]), ("remit/api.ErrCorrupt", [114, 101, 109, 105, 116, 58, 32, 99, 111, 114, 114, 117, 112, 116]), ("remit/api.ErrWorn", [114, 101, 109, 105, 116, 58, 32, 119, 111, 114, 110]), ("remit/api.ErrFull", [114, 101, 109, 105, 116, 58, 32, 102, 117, 108, 108]), ("remit/api.ErrLarge", [114, 101, 109, 105, 116, 58, 32, 108, 97, 114, 103, 101]), ("remit/api.ErrClosed", [114, 101, 109, 105, 116, 58, 32, 99, 108, 111, 115, 101, 100]), ("remit/api.ErrAccount", [114, 101, 109, 105, 116, 58, 32, 97, 99, 99, 111, 117, 110, 116]), ("remit/api.ErrExists", [114, 101, 109, 105, 116, 58, 32, 101, 120, 105, 115, 116, 115]), ("remit/api.ErrFrozen", [114, 101, 109, 105, 116, 58, 32, 102, 114, 111, 122, 101, 110]), ("remit/api.ErrFunds", [114, 101, 109, 105, 116, 58, 32, 102, 117, 110, 100, 115]), ("remit/api.ErrLegs", [114, 101, 109, 105, 116, 58, 32, 108, 101, 103, 115]), ("remit/api.ErrConflict", [114, 101, 109, 105, 116, 58, 32, 99, 111, 110, 102, 108, 105, 99, 116]), ("remit/api.ErrId", [114, 101, 109, 105, 116, 58, 32, 105, 100]), ("remit/api.ErrPayee", [114, 101, 109, 105, 116, 58, 32, 112, 97, 121, 101, 101]), ("remit/api.ErrRail", [114, 101, 109, 105, 116, 58, 32, 114, 97, 105, 108]), ("remit/api.ErrBusy", [114, 101, 109, 105, 116, 58, 32, 98, 117, 115, 121]), ("remit/api.ErrWindow", [114, 101, 109, 105, 116, 58, 32, 119, 105, 110, 100, 111, 119]), ("remit/api.ErrPhase", [114, 101, 109, 105, 116, 58, 32, 112, 104, 97, 115, 101]), ("remit/api.ErrToken", [114, 101, 109, 105, 116, 58, 32, 116, 111, 107, 101, 110]), ("remit/api.ErrTime", [114, 101, 109, 105, 116, 58, 32, 116, 105, 109, 101]), ("remit/api.ErrUnknown", [114, 101, 109, 105, 116, 58, 32, 117, 110, 107, 110, 111, 119, 110]), ("remit/api.ErrConfig", [114, 101, 109, 105, 116, 58, 32, 99, 111, 110, 102, 105, 103, 117, 114, 97, 116, 105, 111, 110]), ("remit/api.ErrCommand", [114, 101, 109, 105, 116, 58, 32, 99, 111, 109, 109, 97, 110, 100]), ("remit/api.ErrUse", [114, 101, 109, 105, 116, 58, 32, 105, 110, 32, 117, 115, 101])]
theorem laid_eq : (Rows.wholeNamesRow.laid : List (String × DataW Unit)) = names.map (sentD "*errors.errorString") := rfl

set_option maxRecDepth 100000 in
theorem contract (H : Type) (enc : TypeId × Value → H) (W : World) (base : Nat) (args : Array Value) (ds gs : List (DataW H)) (before : List MemPlace)
    (hval : ∀ (j : Nat) t v, Tryd.f3.params[j]? = some t → args[j]? = some v → Value.okWide Tryd.prog W .any base t v)
    (hW : DataW.Whole enc Tryd.prog Tryd.f3.params.toList Rows.wholeNamesSpec.vars false W args.toList ds gs before)
    (_hreach : (DataW.weightsEach Tryd.prog (Tryd.f3.params.toList ++ (OpenSpec.ofChange Rows.wholeNamesSpec).bare.plain.varTypes Tryd.prog) (ds ++ gs)).all (· ≤ reachBytes) = true) (hL : laidMetH Tryd.prog Rows.wholeNamesRow.laid W) :
    Calls Tryd.prog 3 args W fun e W' => ∃ v, e = .returned v ∧ Rows.wholeNamesSpec.post enc Tryd.prog Tryd.f3 false true false false W args v W' := by
  have hW' := hW
  obtain ⟨p, q, hA0, hV, rfl, hfz, hnd⟩ := hW
  have hA : DataW.TrodAll enc Tryd.prog W 0 (fun _ => true) true Tryd.f3.params.toList args.toList ds p := hA0
  rw [Tryd.params3] at hA hval
  obtain ⟨hargs, rfl, rfl⟩ := trodAll_nil hA
  obtain rfl : args = #[] := by cases args; simp_all
  obtain ⟨rfl, rfl⟩ := trodVars_none hV
  clear hA0
  simp only [List.append_nil] at hW'
  rw [laid_eq, MakeChecks.laidMetH_plain _ _ _ (by kernel_rfl)] at hL
  obtain ⟨ms, f, F⟩ := errFacts
  obtain ⟨al, hS⟩ := sents_of_laid F names [0, 1, 2, 3, 4, 5, 6, 7, 8, 9, 10, 11, 12, 13, 14, 15, 16, 17, 18, 19, 20, 21, 22, 23, 24, 25, 26, 27, 28, 29, 30, 31, 32, 33, 34, 35, 36] hL (by kernel_rfl) (fun g hg => by
    have hall : ∀ g ∈ [0, 1, 2, 3, 4, 5, 6, 7, 8, 9, 10, 11, 12, 13, 14, 15, 16, 17, 18, 19, 20, 21, 22, 23, 24, 25, 26, 27, 28, 29, 30, 31, 32, 33, 34, 35, 36], (Tryd.prog.globals[g]?).map (·.type) = some 23 := by
      intro g hg
      have := List.all_eq_true.1 (show ([0, 1, 2, 3, 4, 5, 6, 7, 8, 9, 10, 11, 12, 13, 14, 15, 16, 17, 18, 19, 20, 21, 22, 23, 24, 25, 26, 27, 28, 29, 30, 31, 32, 33, 34, 35, 36].all fun g => decide ((Tryd.prog.globals[g]?).map (·.type) = some 23)) = true by kernel_rfl) g hg
      exact of_decide_eq_true this
    exact hall g hg)
  have hE := errs_of_sents hS
  clear hS
  have walk : Calls Tryd.prog 3 #[] W fun e w' => e = .returned (.bool true) ∧ Below W.heap.size W w' := by
    exact names_law _ W hE
  refine walk.mono fun e W' ⟨he, hb⟩ => ?_
  subst he
  exact ⟨_, rfl, post_of_below (pa := []) (pv := []) hW' (fun _ _ _ => trodAll_cons_mk (shut_bool Tryd.underlying4 _) trodAll_mk0)
    (fun _ _ => trodAll_mk0)
    (fun _ _ => rfl) rfl hb (ok_one (by kernel_rfl) rfl (okWide_bool_mk Tryd.underlying4 _))⟩

def wit : Array Value := #[]
theorem laid_met (os : Os) : laidMet Tryd.prog Rows.wholeNamesRow.laid (((World.doorLaid Tryd.prog 712 os).forCall (fun _ _ => 0) ⟨#[], wit, []⟩).memory) :=
  laidMet_of_run' 8 (by kernel_rfl) (by kernel_rfl)
theorem reads (os : Os) {H : Type} (enc : TypeId × Value → H) : ∃ places, DataW.whole enc Tryd.prog (((World.doorLaid Tryd.prog 712 os).forCall (fun _ _ => 0) ⟨#[], wit, []⟩).memory) Tryd.f3.params.toList Rows.wholeNamesSpec.vars false wit.toList 8 = some ([], [], places) :=
  ⟨[], by kernel_rfl⟩

set_option maxRecDepth 100000 in
theorem lifted (os : Os) (started : os.Started) (H : Type) (enc : TypeId × Value → H) (F : Stop.Interp) :
    ReturnsInHanded {} Tryd.checked os 3 .any ((OpenSpec.ofChange Rows.wholeNamesSpec).preRow enc Tryd.prog Tryd.f3 Rows.wholeNamesRow.domain false Rows.wholeNamesRow.laid) (((OpenSpec.ofChange Rows.wholeNamesSpec).at F).post enc Tryd.prog Tryd.f3 false true false false) := by
  obtain ⟨places, hx⟩ := reads os enc
  refine returnsInHanded_of_row (C := Tryd.checked) (s := (OpenSpec.ofChange Rows.wholeNamesSpec)) own started (by kernel_rfl) Tryd.func3
    (witness_row_atRef (enc := enc) (C := Tryd.checked) false (World.doorLaid Tryd.prog 712 os) wit rfl (by kernel_rfl) (by kernel_rfl) (by kernel_rfl)
      (OpenSpec.preRow_of_cond 8 hx (by kernel_rfl) (fun k hk => by cases hk) (by kernel_rfl) (laid_met os))) ?_
  intro W base args ds gs before hval hW _ hcond hreach hL _ _
  exact contract H enc W base args ds gs before hval hW hreach hL

theorem said : Rows.WholeNamesSaid :=
  OpenClaim.holds_of_cond 3 Tryd.f3 rfl rfl rfl rfl rfl rfl rfl ⟨rfl, rfl, rfl, rfl, rfl⟩ rfl rfl rfl rfl rfl (by kernel_rfl) Tryd.func3 (by kernel_rfl)
    (of_decide_eq_true (by kernel_rfl)) (by unfold Func.isWrapper; first | (rw [if_pos (by decide +kernel)]; kernel_rfl) | (rw [if_neg (by decide +kernel)]; exact ⟨rfl, rfl⟩))
    (fun os started H enc _ F => by rw [OpenClaim.pre_eq_preRow]; exact lifted os started H enc F)

theorem plain (f : FuncId) (fn : Func) (hf : Tryd.pinned.checked.prog.funcNamed "remit/remittop.WholeNames" = some f) (hfn : Tryd.pinned.checked.prog.funcs[f]? = some fn) :
    true = Tryd.pinned.checked.prog.looks [] ∧ ∀ (j : Nat) t, fn.params[j]? = some t → Tryd.pinned.checked.prog.wantsStandIn t = false := by
  obtain rfl : f = 3 := Option.some.inj ((show Tryd.prog.funcNamed "remit/remittop.WholeNames" = some 3 by kernel_rfl).symm.trans hf) |>.symm
  obtain rfl : fn = Tryd.f3 := (Option.some.inj (Tryd.func3.symm.trans hfn)).symm
  refine ⟨by kernel_rfl, fun j t ht => ?_⟩
  rw [Tryd.params3] at ht
  have hm : t ∈ [] := by simpa using Array.mem_of_getElem? ht
  have hall : ([].all fun u => !Tryd.prog.wantsStandIn u) = true := by kernel_rfl
  have h1 : Tryd.prog.wantsStandIn t = false := by simpa using List.all_eq_true.1 hall t hm
  exact h1

theorem card : Rows.WholeNamesCardSaid :=
  Claim7.holds_tied_plain_at .later [] _ _ _ _ said (fun _ h => by cases h) (by kernel_rfl) (fun _ h => by cases h) wholeNames_row_tie rfl ⟨rfl, rfl⟩ (by kernel_rfl) rfl plain (by kernel_rfl)
#print axioms card
end Go.Proofs.YtihgblehijppnaaDoor.lawWholeNames
