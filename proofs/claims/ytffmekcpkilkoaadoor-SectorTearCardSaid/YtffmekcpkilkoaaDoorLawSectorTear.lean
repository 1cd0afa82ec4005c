/-
  Proved: for every input the statement SectorTear returns true and leaves its arguments as they were. Conditions: those of the given row and card alone.
-/
import Derived.Test.YtffmekcpkilkoaaDoorCards
import Derived.Test.YtffmekcpkilkoaaDoorTie
import Derived.Test.YtffmekcpkilkoaaDoorFrame
import Derived.Test.YtffmekcpkilkoaaDoorTear
namespace Go.Proofs.YtffmekcpkilkoaaDoor.lawSectorTear
open Go.ChangeShapes Go.WideShapes Go.ChangeAt Go.RowKit

def others : List (String × DataW Unit) := [("remit/checks.nibbles", Rows.laid_remit_checks_nibbles)]
def names : List (String × List UInt8) := [("remit/api.ErrLimit", [114, 101, 109, 105, 116, 58, 32, 108, 105, 109, 105, 116]), ("remit/api.ErrRange", [114, 101, 109, 105, 116, 58, 32, 114, 97, 110, 103, 101]), ("remit/api.ErrForm", [114, 101, 109, 105, 116, 58, 32, 102, 111, 114, 109])]
theorem laid_eq : (Rows.sectorTearRow.laid : List (String × DataW Unit)) = names.map (sentD "*errors.errorString") ++ others := rfl

set_option maxRecDepth 100000 in
theorem contract (H : Type) (enc : TypeId × Value → H) (W : World) (base : Nat) (args : Array Value) (ds gs : List (DataW H)) (before : List MemPlace)
    (hval : ∀ (j : Nat) t v, Tryd.f6.params[j]? = some t → args[j]? = some v → Value.okWide Tryd.prog W .any base t v)
    (hW : DataW.Whole enc Tryd.prog Tryd.f6.params.toList Rows.sectorTearSpec.vars false W args.toList ds gs before)
    (hreach : (DataW.weightsEach Tryd.prog (Tryd.f6.params.toList ++ (OpenSpec.ofChange Rows.sectorTearSpec).bare.plain.varTypes Tryd.prog) (ds ++ gs)).all (· ≤ reachBytes) = true) (hL : laidMetH Tryd.prog Rows.sectorTearRow.laid W) :
    Calls Tryd.prog 6 args W fun e W' => ∃ v, e = .returned v ∧ Rows.sectorTearSpec.post enc Tryd.prog Tryd.f6 false true false false W args v W' := by
  have hW' := hW
  obtain ⟨p, q, hA0, hV, rfl, hfz, hnd⟩ := hW
  have hA : DataW.TrodAll enc Tryd.prog W 0 (fun _ => true) true Tryd.f6.params.toList args.toList ds p := hA0
  rw [Tryd.params6] at hA hval
  obtain ⟨v0, vs0, d0, ds0, p0, q0, hargs, rfl, rfl, h0, r0⟩ := trodAll_cons hA
  obtain ⟨v1, vs1, d1, ds1, p1, q1, rfl, rfl, rfl, h1, r1⟩ := trodAll_cons r0
  obtain ⟨v2, vs2, d2, ds2, p2, q2, rfl, rfl, rfl, h2, r2⟩ := trodAll_cons r1
  obtain ⟨v3, vs3, d3, ds3, p3, q3, rfl, rfl, rfl, h3, r3⟩ := trodAll_cons r2
  obtain ⟨v4, vs4, d4, ds4, p4, q4, rfl, rfl, rfl, h4, r4⟩ := trodAll_cons r3
  obtain ⟨v5, vs5, d5, ds5, p5, q5, rfl, rfl, rfl, h5, r5⟩ := trodAll_cons r4
  obtain ⟨rfl, rfl, rfl⟩ := trodAll_nil r5
  obtain rfl : args = #[v0, v1, v2, v3, v4, v5] := by cases args; simp_all
  obtain ⟨rfl, rfl⟩ := trodVars_none hV
  obtain ⟨x0, rfl, rfl, rfl, wf0⟩ := open_int Tryd.underlying22 (hval 0 22 v0 rfl rfl) h0
  obtain ⟨x1, rfl, rfl, rfl, wf1⟩ := Go.ChangeMaps.open_string Tryd.underlying9 (hval 1 9 v1 rfl rfl) h1
  obtain ⟨x2, rfl, rfl, rfl, wf2⟩ := open_int Tryd.underlying22 (hval 2 22 v2 rfl rfl) h2
  obtain ⟨x3, rfl, rfl, rfl, wf3⟩ := Go.ChangeMaps.open_string Tryd.underlying9 (hval 3 9 v3 rfl rfl) h3
  obtain ⟨x4, rfl, rfl, rfl, wf4⟩ := open_int Tryd.underlying3 (hval 4 3 v4 rfl rfl) h4
  obtain ⟨x5, rfl, rfl, rfl, wf5⟩ := open_int Tryd.underlying22 (hval 5 22 v5 rfl rfl) h5
  clear hA0
  have hr1 : x1.size ≤ 140737488351232 := by have := reach_string hreach 1 (t := 9) (l := x1.data.toList) (by kernel_rfl) rfl; simpa using this
  have hr3 : x3.size ≤ 140737488351232 := by have := reach_string hreach 3 (t := 9) (l := x3.data.toList) (by kernel_rfl) rfl; simpa using this
  simp only [List.append_nil] at hW'
  rw [laid_eq, MakeChecks.laidMetH_plain _ _ _ (by kernel_rfl)] at hL
  obtain ⟨hL, hL2⟩ := laidMet_split hL
  have hN := nibs_of_laid hL2
  have hgN : 37 < W.heap.size := lt_of_cell (hN 0 (by omega))
  obtain ⟨ms, f, F⟩ := errFacts
  obtain ⟨al, hS⟩ := sents_of_laid F names [1, 0, 2] hL (by kernel_rfl) (fun g hg => by
    have hall : ∀ g ∈ [1, 0, 2], (Tryd.prog.globals[g]?).map (·.type) = some 25 := by
      intro g hg
      have := List.all_eq_true.1 (show ([1, 0, 2].all fun g => decide ((Tryd.prog.globals[g]?).map (·.type) = some 25)) = true by kernel_rfl) g hg
      exact of_decide_eq_true this
    exact hall g hg)
  have walk : Calls Tryd.prog 6 #[.int .u64 x0, .string x1, .int .u64 x2, .string x3, .int .i64 x4, .int .u64 x5] W fun e w' => e = .returned (.bool true) ∧ Below W.heap.size W w' := by
    have hb0 := bounds_u64 wf0
    have hb2 := bounds_u64 wf2
    have hb5 := bounds_u64 wf5
    obtain ⟨n0, rfl⟩ : ∃ n : Nat, x0 = (n : Int) := ⟨x0.toNat, by omega⟩
    obtain ⟨n2, rfl⟩ : ∃ n : Nat, x2 = (n : Int) := ⟨x2.toNat, by omega⟩
    obtain ⟨n5, rfl⟩ : ∃ n : Nat, x5 = (n : Int) := ⟨x5.toNat, by omega⟩
    exact tear_law n0 n2 n5 x4 x1 x3 (by omega) (by omega) (by omega) (Nat.le_trans hr1 (by decide)) (Nat.le_trans hr3 (by decide)) _ (fun _ => default) W (E := False) ⟨Nat.le_refl _, hgN, fun h => h.elim, hN⟩
  refine walk.mono fun e W' ⟨he, hb⟩ => ?_
  subst he
  exact ⟨_, rfl, post_of_below (pa := []) (pv := []) hW' (fun _ _ _ => trodAll_cons_mk (shut_bool Tryd.underlying4 _) trodAll_mk0)
    (fun _ _ => trodAll_cons_mk (shut_int Tryd.underlying22 wf0) (trodAll_cons_mk (Go.ChangeMaps.shut_string Tryd.underlying9 wf1) (trodAll_cons_mk (shut_int Tryd.underlying22 wf2) (trodAll_cons_mk (Go.ChangeMaps.shut_string Tryd.underlying9 wf3) (trodAll_cons_mk (shut_int Tryd.underlying3 wf4) (trodAll_cons_mk (shut_int Tryd.underlying22 wf5) trodAll_mk0))))))
    (fun _ _ => rfl) rfl hb (ok_one (by kernel_rfl) rfl (okWide_bool_mk Tryd.underlying4 _))⟩

def wit : Array Value := #[.int .u64 0, .string ⟨#[]⟩, .int .u64 0, .string ⟨#[]⟩, .int .i64 0, .int .u64 0]
theorem laid_met (os : Os) : laidMet Tryd.prog Rows.sectorTearRow.laid (((World.doorLaid Tryd.prog 717 os).forCall (fun _ _ => 0) ⟨#[], wit, []⟩).memory) :=
  laidMet_of_run' 8 (by kernel_rfl) (by kernel_rfl)
theorem reads (os : Os) {H : Type} (enc : TypeId × Value → H) : ∃ places, DataW.whole enc Tryd.prog (((World.doorLaid Tryd.prog 717 os).forCall (fun _ _ => 0) ⟨#[], wit, []⟩).memory) Tryd.f6.params.toList Rows.sectorTearSpec.vars false wit.toList 8 = some ([.lit (.int .u64 0), .lit (.string []), .lit (.int .u64 0), .lit (.string []), .lit (.int .i64 0), .lit (.int .u64 0)], [], places) :=
  ⟨[], by kernel_rfl⟩

set_option maxRecDepth 100000 in
theorem lifted (os : Os) (started : os.Started) (H : Type) (enc : TypeId × Value → H) (F : Stop.Interp) :
    ReturnsInHanded {} Tryd.checked os 6 .any ((OpenSpec.ofChange Rows.sectorTearSpec).preRow enc Tryd.prog Tryd.f6 Rows.sectorTearRow.domain false Rows.sectorTearRow.laid) (((OpenSpec.ofChange Rows.sectorTearSpec).at F).post enc Tryd.prog Tryd.f6 false true false false) := by
  obtain ⟨places, hx⟩ := reads os enc
  refine returnsInHanded_of_row (C := Tryd.checked) (s := (OpenSpec.ofChange Rows.sectorTearSpec)) own started (by kernel_rfl) Tryd.func6
    (witness_row_atRef (enc := enc) (C := Tryd.checked) false (World.doorLaid Tryd.prog 717 os) wit rfl (by kernel_rfl) (by kernel_rfl) (by kernel_rfl)
      (OpenSpec.preRow_of_cond 8 hx (by kernel_rfl) (fun k hk => by cases hk) (by kernel_rfl) (laid_met os))) ?_
  intro W base args ds gs before hval hW _ hcond hreach hL _ _
  exact contract H enc W base args ds gs before hval hW hreach hL

theorem said : Rows.SectorTearSaid :=
  OpenClaim.holds_of_cond 6 Tryd.f6 rfl rfl rfl rfl rfl rfl rfl ⟨rfl, rfl, rfl, rfl, rfl⟩ rfl rfl rfl rfl rfl (by kernel_rfl) Tryd.func6 (by kernel_rfl)
    (of_decide_eq_true (by kernel_rfl)) (by unfold Func.isWrapper; first | (rw [if_pos (by decide +kernel)]; kernel_rfl) | (rw [if_neg (by decide +kernel)]; exact ⟨rfl, rfl⟩))
    (fun os started H enc _ F => by rw [OpenClaim.pre_eq_preRow]; exact lifted os started H enc F)

theorem plain (f : FuncId) (fn : Func) (hf : Tryd.pinned.checked.prog.funcNamed "remit/remitlaw07.SectorTear" = some f) (hfn : Tryd.pinned.checked.prog.funcs[f]? = some fn) :
    true = Tryd.pinned.checked.prog.looks [] ∧ ∀ (j : Nat) t, fn.params[j]? = some t → Tryd.pinned.checked.prog.wantsStandIn t = false := by
  obtain rfl : f = 6 := Option.some.inj ((show Tryd.prog.funcNamed "remit/remitlaw07.SectorTear" = some 6 by kernel_rfl).symm.trans hf) |>.symm
  obtain rfl : fn = Tryd.f6 := (Option.some.inj (Tryd.func6.symm.trans hfn)).symm
  refine ⟨by kernel_rfl, fun j t ht => ?_⟩
  rw [Tryd.params6] at ht
  have hm : t ∈ [22, 9, 22, 9, 3, 22] := by simpa using Array.mem_of_getElem? ht
  have hall : ([22, 9, 22, 9, 3, 22].all fun u => !Tryd.prog.wantsStandIn u) = true := by kernel_rfl
  have h1 : Tryd.prog.wantsStandIn t = false := by simpa using List.all_eq_true.1 hall t hm
  exact h1

theorem card : Rows.SectorTearCardSaid :=
  Claim7.holds_tied_plain_at .later [] _ _ _ _ said (fun _ h => by cases h) (by kernel_rfl) (fun _ h => by cases h) sectorTear_row_tie rfl ⟨rfl, rfl⟩ (by kernel_rfl) rfl plain (by kernel_rfl)
#print axioms card
end Go.Proofs.YtffmekcpkilkoaaDoor.lawSectorTear
