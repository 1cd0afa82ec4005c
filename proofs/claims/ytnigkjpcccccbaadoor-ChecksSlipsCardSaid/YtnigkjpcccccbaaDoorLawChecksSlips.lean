/-
  Proved: for every input the statement ChecksSlips returns true and leaves its arguments as they were. Conditions: those of the given row and card alone.
-/
import Derived.Test.YtnigkjpcccccbaaDoorCards
import Derived.Test.YtnigkjpcccccbaaDoorTie
import Derived.Test.YtnigkjpcccccbaaDoorFrame
import Derived.Test.YtnigkjpcccccbaaDoorLaws5
namespace Go.Proofs.YtnigkjpcccccbaaDoor.lawChecksSlips
open Go.ChangeShapes Go.WideShapes Go.ChangeAt Go.RowKit

def others : List (String × DataW Unit) := [("remit/checks.nibbles", Rows.laid_remit_checks_nibbles)]
def names : List (String × List UInt8) := [("remit/api.ErrForm", [114, 101, 109, 105, 116, 58, 32, 102, 111, 114, 109])]
theorem laid_eq : (Rows.checksSlipsRow.laid : List (String × DataW Unit)) = names.map (sentD "*errors.errorString") ++ others := rfl

set_option maxRecDepth 100000 in
theorem contract (H : Type) (enc : TypeId × Value → H) (W : World) (base : Nat) (args : Array Value) (ds gs : List (DataW H)) (before : List MemPlace)
    (hval : ∀ (j : Nat) t v, Tryd.f7.params[j]? = some t → args[j]? = some v → Value.okWide Tryd.prog W .any base t v)
    (hW : DataW.Whole enc Tryd.prog Tryd.f7.params.toList Rows.checksSlipsSpec.vars false W args.toList ds gs before)
    (hreach : (DataW.weightsEach Tryd.prog (Tryd.f7.params.toList ++ (OpenSpec.ofChange Rows.checksSlipsSpec).bare.plain.varTypes Tryd.prog) (ds ++ gs)).all (· ≤ reachBytes) = true) (hL : laidMetH Tryd.prog Rows.checksSlipsRow.laid W) :
    Calls Tryd.prog 7 args W fun e W' => ∃ v, e = .returned v ∧ Rows.checksSlipsSpec.post enc Tryd.prog Tryd.f7 false true false false W args v W' := by
  have hW' := hW
  obtain ⟨p, q, hA0, hV, rfl, hfz, hnd⟩ := hW
  have hA : DataW.TrodAll enc Tryd.prog W 0 (fun _ => true) true Tryd.f7.params.toList args.toList ds p := hA0
  rw [Tryd.params7] at hA hval
  obtain ⟨v0, vs0, d0, ds0, p0, q0, hargs, rfl, rfl, h0, r0⟩ := trodAll_cons hA
  obtain ⟨v1, vs1, d1, ds1, p1, q1, rfl, rfl, rfl, h1, r1⟩ := trodAll_cons r0
  obtain ⟨v2, vs2, d2, ds2, p2, q2, rfl, rfl, rfl, h2, r2⟩ := trodAll_cons r1
  obtain ⟨rfl, rfl, rfl⟩ := trodAll_nil r2
  obtain rfl : args = #[v0, v1, v2] := by cases args; simp_all
  obtain ⟨rfl, rfl⟩ := trodVars_none hV
  obtain ⟨x0, rfl, rfl, rfl, wf0⟩ := Go.ChangeMaps.open_string Tryd.underlying9 (hval 0 9 v0 rfl rfl) h0
  obtain ⟨x1, rfl, rfl, rfl, wf1⟩ := open_int Tryd.underlying3 (hval 1 3 v1 rfl rfl) h1
  obtain ⟨x2, rfl, rfl, rfl, wf2⟩ := open_int Tryd.underlying5 (hval 2 5 v2 rfl rfl) h2
  clear hA0
  have hr0 : x0.size ≤ 140737488351232 := by have := reach_string hreach 0 (t := 9) (l := x0.data.toList) (by kernel_rfl) rfl; simpa using this
  simp only [List.append_nil] at hW'
  rw [laid_eq, MakeChecks.laidMetH_plain _ _ _ (by kernel_rfl)] at hL
  obtain ⟨hL, hL2⟩ := laidMet_split hL
  have hN := nibs_of_laid hL2
  have hgN : 0 < W.heap.size := lt_of_cell (hN 0 (by omega))
  obtain ⟨ms, f, F⟩ := errFacts
  obtain ⟨al, hS⟩ := sents_of_laid F names [1] hL (by kernel_rfl) (fun g hg => by
    have hall : ∀ g ∈ [1], (Tryd.prog.globals[g]?).map (·.type) = some 31 := by
      intro g hg
      have := List.all_eq_true.1 (show ([1].all fun g => decide ((Tryd.prog.globals[g]?).map (·.type) = some 31)) = true by kernel_rfl) g hg
      exact of_decide_eq_true this
    exact hall g hg)
  obtain ⟨a, haE⟩ : ∃ a : Addr, W.cell? ⟨1, 0, none⟩ = some (.iface 50 (.pointer (some a))) ∧ (∃ c t, W.heap[a.block]? = some (.cells c t (0, 0))) := by
    match al, hS.len with
    | [a], _ =>
      obtain ⟨_, _, hs⟩ := hS.at_ 0 1 a rfl rfl
      exact ⟨a, hs.var, hs.row⟩
  clear hS
  have walk : Calls Tryd.prog 7 #[.string x0, .int .i64 x1, .int .u8 x2] W fun e w' => e = .returned (.bool true) ∧ Below W.heap.size W w' := by
    have hb2 := bounds_u8 wf2
    obtain ⟨c, rfl⟩ : ∃ c : UInt8, x2 = (c.toNat : Int) := ⟨UInt8.ofNat x2.toNat, by rw [UInt8.toNat_ofNat_of_lt' (show x2.toNat < 256 by omega)]; omega⟩
    exact slips_law x0 _ rfl (Nat.le_trans hr0 (by decide)) x1 c _ _ W ⟨Nat.le_refl _, lt_of_cell haE.1, hgN, haE.1, hN⟩
  refine walk.mono fun e W' ⟨he, hb⟩ => ?_
  subst he
  exact ⟨_, rfl, post_of_below (pa := []) (pv := []) hW' (fun _ _ _ => trodAll_cons_mk (shut_bool Tryd.underlying4 _) trodAll_mk0)
    (fun _ _ => trodAll_cons_mk (Go.ChangeMaps.shut_string Tryd.underlying9 wf0) (trodAll_cons_mk (shut_int Tryd.underlying3 wf1) (trodAll_cons_mk (shut_int Tryd.underlying5 wf2) trodAll_mk0)))
    (fun _ _ => rfl) rfl hb (ok_one (by kernel_rfl) rfl (okWide_bool_mk Tryd.underlying4 _))⟩

def wit : Array Value := #[.string ⟨#[]⟩, .int .i64 0, .int .u8 0]
theorem laid_met (os : Os) : laidMet Tryd.prog Rows.checksSlipsRow.laid (((World.doorLaid Tryd.prog 717 os).forCall (fun _ _ => 0) ⟨#[], wit, []⟩).memory) :=
  laidMet_of_run' 8 (by kernel_rfl) (by kernel_rfl)
theorem reads (os : Os) {H : Type} (enc : TypeId × Value → H) : ∃ places, DataW.whole enc Tryd.prog (((World.doorLaid Tryd.prog 717 os).forCall (fun _ _ => 0) ⟨#[], wit, []⟩).memory) Tryd.f7.params.toList Rows.checksSlipsSpec.vars false wit.toList 8 = some ([.lit (.string []), .lit (.int .i64 0), .lit (.int .u8 0)], [], places) :=
  ⟨[], by kernel_rfl⟩

set_option maxRecDepth 100000 in
theorem lifted (os : Os) (started : os.Started) (H : Type) (enc : TypeId × Value → H) (F : Stop.Interp) :
    ReturnsInHanded {} Tryd.checked os 7 .any ((OpenSpec.ofChange Rows.checksSlipsSpec).preRow enc Tryd.prog Tryd.f7 Rows.checksSlipsRow.domain false Rows.checksSlipsRow.laid) (((OpenSpec.ofChange Rows.checksSlipsSpec).at F).post enc Tryd.prog Tryd.f7 false true false false) := by
  obtain ⟨places, hx⟩ := reads os enc
  refine returnsInHanded_of_row (C := Tryd.checked) (s := (OpenSpec.ofChange Rows.checksSlipsSpec)) own started (by kernel_rfl) Tryd.func7
    (witness_row_atRef (enc := enc) (C := Tryd.checked) false (World.doorLaid Tryd.prog 717 os) wit rfl (by kernel_rfl) (by kernel_rfl) (by kernel_rfl)
      (OpenSpec.preRow_of_cond 8 hx (by kernel_rfl) (fun k hk => by cases hk) (by kernel_rfl) (laid_met os))) ?_
  intro W base args ds gs before hval hW _ hcond hreach hL _ _
  exact contract H enc W base args ds gs before hval hW hreach hL

theorem said : Rows.ChecksSlipsSaid :=
  OpenClaim.holds_of_cond 7 Tryd.f7 rfl rfl rfl rfl rfl rfl rfl ⟨rfl, rfl, rfl, rfl, rfl⟩ rfl rfl rfl rfl rfl (by kernel_rfl) Tryd.func7 (by kernel_rfl)
    (of_decide_eq_true (by kernel_rfl)) (by unfold Func.isWrapper; first | (rw [if_pos (by decide +kernel)]; kernel_rfl) | (rw [if_neg (by decide +kernel)]; exact ⟨rfl, rfl⟩))
    (fun os started H enc _ F => by rw [OpenClaim.pre_eq_preRow]; exact lifted os started H enc F)

theorem plain (f : FuncId) (fn : Func) (hf : Tryd.pinned.checked.prog.funcNamed "remit/remitlaw03.ChecksSlips" = some f) (hfn : Tryd.pinned.checked.prog.funcs[f]? = some fn) :
    true = Tryd.pinned.checked.prog.looks [] ∧ ∀ (j : Nat) t, fn.params[j]? = some t → Tryd.pinned.checked.prog.wantsStandIn t = false := by
  obtain rfl : f = 7 := Option.some.inj ((show Tryd.prog.funcNamed "remit/remitlaw03.ChecksSlips" = some 7 by kernel_rfl).symm.trans hf) |>.symm
  obtain rfl : fn = Tryd.f7 := (Option.some.inj (Tryd.func7.symm.trans hfn)).symm
  refine ⟨by kernel_rfl, fun j t ht => ?_⟩
  rw [Tryd.params7] at ht
  have hm : t ∈ [9, 3, 5] := by simpa using Array.mem_of_getElem? ht
  have hall : ([9, 3, 5].all fun u => !Tryd.prog.wantsStandIn u) = true := by kernel_rfl
  have h1 : Tryd.prog.wantsStandIn t = false := by simpa using List.all_eq_true.1 hall t hm
  exact h1

theorem card : Rows.ChecksSlipsCardSaid :=
  Claim7.holds_tied_plain_at .later [] _ _ _ _ said (fun _ h => by cases h) (by kernel_rfl) (fun _ h => by cases h) checksSlips_row_tie rfl ⟨rfl, rfl⟩ (by kernel_rfl) rfl plain (by kernel_rfl)
#print axioms card
end Go.Proofs.YtnigkjpcccccbaaDoor.lawChecksSlips
