/-
  Proved: for every input the statement SectorTears returns true and leaves its arguments as they were. Conditions: those of the given row and card alone.
-/
import Derived.Test.YtffmekcpkilkoaaDoorCards
import Derived.Test.YtffmekcpkilkoaaDoorTie
import Derived.Test.YtffmekcpkilkoaaDoorFrame
import Derived.ChangeSlices
import Derived.Carry
import Derived.WideKeyArgs
import Derived.Test.YtffmekcpkilkoaaDoorParts
import Derived.Test.YtffmekcpkilkoaaDoorTears
namespace Go.Proofs.YtffmekcpkilkoaaDoor.lawSectorTears
open Go.ChangeShapes Go.WideShapes Go.ChangeAt Go.RowKit

theorem laidOut : laidOutB Tryd.prog = true := by kernel_rfl
def others : List (String × DataW Unit) := [("remit/checks.nibbles", Rows.laid_remit_checks_nibbles)]
def names : List (String × List UInt8) := [("remit/api.ErrLimit", [114, 101, 109, 105, 116, 58, 32, 108, 105, 109, 105, 116]), ("remit/api.ErrRange", [114, 101, 109, 105, 116, 58, 32, 114, 97, 110, 103, 101]), ("remit/api.ErrForm", [114, 101, 109, 105, 116, 58, 32, 102, 111, 114, 109])]
theorem laid_eq : (Rows.sectorTearsRow.laid : List (String × DataW Unit)) = names.map (sentD "*errors.errorString") ++ others := rfl

set_option maxRecDepth 100000 in
theorem contract (H : Type) (enc : TypeId × Value → H) (W : World) (base : Nat) (args : Array Value) (ds gs : List (DataW H)) (before : List MemPlace)
    (hval : ∀ (j : Nat) t v, Tryd.f7.params[j]? = some t → args[j]? = some v → Value.okWide Tryd.prog W .any base t v)
    (hW : DataW.Whole enc Tryd.prog Tryd.f7.params.toList Rows.sectorTearsSpec.vars false W args.toList ds gs before)
    (_hreach : (DataW.weightsEach Tryd.prog (Tryd.f7.params.toList ++ (OpenSpec.ofChange Rows.sectorTearsSpec).bare.plain.varTypes Tryd.prog) (ds ++ gs)).all (· ≤ reachBytes) = true) (hL : laidMetH Tryd.prog Rows.sectorTearsRow.laid W) :
    Calls Tryd.prog 7 args W fun e W' => ∃ v, e = .returned v ∧ Rows.sectorTearsSpec.post enc Tryd.prog Tryd.f7 false true false false W args v W' := by
  have hW' := hW
  obtain ⟨p, q, hA0, hV, rfl, hfz, hnd⟩ := hW
  have hA : DataW.TrodAll enc Tryd.prog W 0 (fun _ => true) true Tryd.f7.params.toList args.toList ds p := hA0
  rw [Tryd.params7] at hA hval
  obtain ⟨v0, vs0, d0, ds0, p0, q0, hargs, rfl, rfl, h0, r0⟩ := trodAll_cons hA
  obtain ⟨v1, vs1, d1, ds1, p1, q1, rfl, rfl, rfl, h1, r1⟩ := trodAll_cons r0
  obtain ⟨rfl, rfl, rfl⟩ := trodAll_nil r1
  obtain rfl : args = #[v0, v1] := by cases args; simp_all
  obtain ⟨rfl, rfl⟩ := trodVars_none hV
  obtain ⟨ad0, n0, c0, rfl⟩ := okWide_slice Tryd.underlying56 (hval 0 56 v0 rfl rfl)
  have h0k := h0
  obtain ⟨x1, rfl, rfl, rfl, wf1⟩ := open_int Tryd.underlying22 (hval 1 22 v1 rfl rfl) h1
  clear hA0
  have hlt0 : ∀ x ∈ p0, x.block < W.heap.size := fun x hx => hW'.lt x (by simp [hx])
  rw [laid_eq, MakeChecks.laidMetH_plain _ _ _ (by kernel_rfl)] at hL
  obtain ⟨hL, hL2⟩ := laidMet_split hL
  have hN := nibs_of_laid hL2
  have hgN : 37 < W.heap.size := lt_of_cell (hN 0 (by omega))
  obtain ⟨ms, f, F⟩ := errFacts
  obtain ⟨al, hS⟩ := sents_of_laid F names [1, 0, 2] hL (by kernel_rfl) (fun g hg => by
    have hall : ∀ g ∈ [1, 0, 2], (Tryd.prog.globals[g]?).map (·.type) = some 25 := by
      intro g hg
      have := List.all_eq_true.1 (show ([1, 0, 2].all fun g => decide ((Tryd.prog.globals[g]?).map (·.type) = some 25)) = true by kernel_rfl) g hg
      exact of_decide_eq_true this
    exact hall g hg)
  have walk : Calls Tryd.prog 7 #[.slice ad0 n0 c0, .int .u64 x1] W fun e w' => e = .returned (.bool true) ∧ Below W.heap.size W w' := by
    have hb1 := bounds_u64 wf1
    obtain ⟨n1, rfl⟩ : ∃ n : Nat, x1 = (n : Int) := ⟨x1.toNat, by omega⟩
    have hG : GlobE False W.heap.size W (fun _ => default) := ⟨Nat.le_refl _, hgN, fun h => h.elim, hN⟩
    obtain ⟨fuel, hf⟩ := h0k
    have hf' : DataW.trod enc Tryd.prog W 0 (fun _ => true) true fuel 56 [.slice ad0 n0 c0] = some (d0, p0) := hf
    rcases struct_slice Tryd.underlying56 Tryd.underlying58 (by kernel_rfl) (by kernel_rfl) (by decide) hf' with rfl | ⟨b, off, D, R, rfl, hl, hm, _, hps, hi⟩
    · exact tears_zero ad0 c0 n1 _ _ W hG
    · refine tears_some b off n0 c0 n1 W.heap.size (hlt0 _ hps) (by unfold maxLen at hm; omega) (by omega) _ _ W (Nat.le_refl _) hG ⟨fun i hin => ?_, fun i hin => ?_, fun i hin => ?_⟩
      · obtain ⟨m, Y, _, hF⟩ := hi i hin
        obtain ⟨v, hc, htr⟩ := hF 0 _ rfl
        obtain ⟨x, hx, _, wf⟩ := DataW.trod_int Tryd.underlying22 htr
        have hbx := bounds_u64 wf
        obtain rfl : v = .int .u64 x := by simpa using hx
        obtain ⟨xn, rfl⟩ : ∃ n : Nat, x = (n : Int) := ⟨x.toNat, by omega⟩
        exact ⟨xn, by omega, hc⟩
      · obtain ⟨m, Y, _, hF⟩ := hi i hin
        obtain ⟨v, hc, htr⟩ := hF 1 _ rfl
        obtain ⟨x, hx, _, hz⟩ := DataW.trod_string Tryd.underlying9 htr
        obtain rfl : v = .string x := by simpa using hx
        exact ⟨x, hz, hc⟩
      · obtain ⟨m, Y, _, hF⟩ := hi i hin
        obtain ⟨v, hc, htr⟩ := hF 2 _ rfl
        obtain ⟨x, hx, _, _⟩ := DataW.trod_int Tryd.underlying3 htr
        obtain rfl : v = .int .i64 x := by simpa using hx
        exact ⟨x, hc⟩
  refine walk.mono fun e W' ⟨he, hb⟩ => ?_
  subst he
  exact ⟨_, rfl, post_of_below (pa := p0 ++ ([] ++ ([]))) (pv := []) hW' (fun _ _ _ => trodAll_cons_mk (shut_bool Tryd.underlying4 _) trodAll_mk0)
    (fun sp hsp => trodAll_cons_mk (WideElems.Trod_stays laidOut (by kernel_rfl) (of_decide_eq_true (by kernel_rfl)) h0k (fun x hx => hb.same (hlt0 x hx)) (fun x hx => hsp x (by simp [hx]))) (trodAll_cons_mk (shut_int Tryd.underlying22 wf1) trodAll_mk0))
    (fun _ _ => rfl) (by simp) hb (ok_one (by kernel_rfl) rfl (okWide_bool_mk Tryd.underlying4 _))⟩

def wit : Array Value := #[.slice none 0 0, .int .u64 0]
theorem laid_met (os : Os) : laidMet Tryd.prog Rows.sectorTearsRow.laid (((World.doorLaid Tryd.prog 717 os).forCall (fun _ _ => 0) ⟨#[], wit, []⟩).memory) :=
  laidMet_of_run' 8 (by kernel_rfl) (by kernel_rfl)
theorem reads (os : Os) {H : Type} (enc : TypeId × Value → H) : ∃ places, DataW.whole enc Tryd.prog (((World.doorLaid Tryd.prog 717 os).forCall (fun _ _ => 0) ⟨#[], wit, []⟩).memory) Tryd.f7.params.toList Rows.sectorTearsSpec.vars false wit.toList 8 = some ([.nil, .lit (.int .u64 0)], [], places) :=
  ⟨[], by kernel_rfl⟩

set_option maxRecDepth 100000 in
theorem lifted (os : Os) (started : os.Started) (H : Type) (enc : TypeId × Value → H) (F : Stop.Interp) :
    ReturnsInHanded {} Tryd.checked os 7 .any ((OpenSpec.ofChange Rows.sectorTearsSpec).preRow enc Tryd.prog Tryd.f7 Rows.sectorTearsRow.domain false Rows.sectorTearsRow.laid) (((OpenSpec.ofChange Rows.sectorTearsSpec).at F).post enc Tryd.prog Tryd.f7 false true false false) := by
  obtain ⟨places, hx⟩ := reads os enc
  refine returnsInHanded_of_row (C := Tryd.checked) (s := (OpenSpec.ofChange Rows.sectorTearsSpec)) own started (by kernel_rfl) Tryd.func7
    (witness_row_atRef (enc := enc) (C := Tryd.checked) false (World.doorLaid Tryd.prog 717 os) wit rfl (by kernel_rfl) (by kernel_rfl) (by kernel_rfl)
      (OpenSpec.preRow_of_cond 8 hx (by kernel_rfl) (fun k hk => by cases hk) (by kernel_rfl) (laid_met os))) ?_
  intro W base args ds gs before hval hW _ hcond hreach hL _ _
  exact contract H enc W base args ds gs before hval hW hreach hL

theorem said : Rows.SectorTearsSaid :=
  OpenClaim.holds_of_cond 7 Tryd.f7 rfl rfl rfl rfl rfl rfl rfl ⟨rfl, rfl, rfl, rfl, rfl⟩ rfl rfl rfl rfl rfl (by kernel_rfl) Tryd.func7 (by kernel_rfl)
    (of_decide_eq_true (by kernel_rfl)) (by unfold Func.isWrapper; first | (rw [if_pos (by decide +kernel)]; kernel_rfl) | (rw [if_neg (by decide +kernel)]; exact ⟨rfl, rfl⟩))
    (fun os started H enc _ F => by rw [OpenClaim.pre_eq_preRow]; exact lifted os started H enc F)

theorem plain (f : FuncId) (fn : Func) (hf : Tryd.pinned.checked.prog.funcNamed "remit/remitlaw07.SectorTears" = some f) (hfn : Tryd.pinned.checked.prog.funcs[f]? = some fn) :
    true = Tryd.pinned.checked.prog.looks [] ∧ ∀ (j : Nat) t, fn.params[j]? = some t → Tryd.pinned.checked.prog.wantsStandIn t = false := by
  obtain rfl : f = 7 := Option.some.inj ((show Tryd.prog.funcNamed "remit/remitlaw07.SectorTears" = some 7 by kernel_rfl).symm.trans hf) |>.symm
  obtain rfl : fn = Tryd.f7 := (Option.some.inj (Tryd.func7.symm.trans hfn)).symm
  refine ⟨by kernel_rfl, fun j t ht => ?_⟩
  rw [Tryd.params7] at ht
  have hm : t ∈ [56, 22] := by simpa using Array.mem_of_getElem? ht
  have hall : ([56, 22].all fun u => !Tryd.prog.wantsStandIn u) = true := by kernel_rfl
  have h1 : Tryd.prog.wantsStandIn t = false := by simpa using List.all_eq_true.1 hall t hm
  exact h1

theorem card : Rows.SectorTearsCardSaid :=
  Claim7.holds_tied_plain_at .later [] _ _ _ _ said (fun _ h => by cases h) (by kernel_rfl) (fun _ h => by cases h) sectorTears_row_tie rfl ⟨rfl, rfl⟩ (by kernel_rfl) rfl plain (by kernel_rfl)
#print axioms card
end Go.Proofs.YtffmekcpkilkoaaDoor.lawSectorTears
