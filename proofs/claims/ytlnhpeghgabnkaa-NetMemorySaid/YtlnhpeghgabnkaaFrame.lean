/-
  What the rows' proofs share: the row's last step where the walk gives 'Below'; the sentinels out of the row's list.
-/
import Derived.Test.YtlnhpeghgabnkaaRows
import Derived.Test.YtlnhpeghgabnkaaSent
import Derived.WalkKit
import Derived.ProofKit
import Derived.OpenShut
import Derived.Below
import Derived.ChangeSame
import Derived.Deep.DeepHandedRow
import Derived.Deep.DeepWitnessRowRef
import Derived.LaidMore
import Derived.SizedLaws
import Derived.Lib.LaidTab
namespace Go.Proofs.Ytlnhpeghgabnkaa
open Go.RowKit Go.WideShapes Go.ChangeShapes Go.ChangeAt

section
variable {H : Type} {enc : TypeId × Value → H} {P : Program}
/-- The row's last step where of the world behind the call 'Below' is known. -/
theorem post_of_below {f : Func} {s : ChangeSpec} {apart fresh handsOn again : Bool} {W W' : World} {args : Array Value} {v : Value} {ds gs : List (DataW H)} {before pa pv : List MemPlace}
    (hW : DataW.Whole enc P f.params.toList s.vars apart W args.toList ds gs before)
    (hres : ∀ (b : Nat) (sp : Nat → Bool) (hd : Bool), DataW.TrodAll enc P W' b sp hd f.resultTypes.toList (v.resultList f.resultTypes.size) (s.fn H (ds ++ gs)).results [])
    (hargs : ∀ sp : Nat → Bool, (∀ p ∈ before, sp p.block = true) → DataW.TrodAll enc P W' 0 sp true f.params.toList args.toList (s.fn H (ds ++ gs)).args pa)
    (hvars : ∀ sp : Nat → Bool, (∀ p ∈ before, sp p.block = true) → DataW.TrodVars enc P W' sp s.vars (s.fn H (ds ++ gs)).vars pv)
    (hps : before = pa ++ pv) (hb : Below W.heap.size W W')
    (hok : ∀ (j : Nat) (t : TypeId) (r : Value), f.resultTypes[j]? = some t → (v.resultList f.resultTypes.size)[j]? = some r → Value.okWide P W' .any 0 t r) :
    s.post enc P f apart fresh handsOn again W args v W' := by
  have hlt : ∀ p ∈ before, p.block < W.heap.size := fun p hp => hW.lt p hp
  have hold : ∀ p ∈ before, (fun b => decide (b < W.heap.size)) p.block = true := fun p hp => by simpa using hlt p hp
  refine ⟨ds, gs, before, [], pa, pv, hW, hres _ _ _, hargs _ hold, hvars _ hold, World.keptBut_mono (fun p hp => ⟨hp, ?_⟩) (hb.frame (· ∈ before)), fun _ => ?_⟩
  · rw [hps, List.mem_append] at hp
    exact Or.inr hp
  · obtain ⟨_, _, _, _, _, hz, hn⟩ := hW
    refine ⟨hok, _, _, ([] ++ pa) ++ pv, ⟨[] ++ pa, pv, trodAll_append (hargs _ (fun _ _ => rfl)) (hres _ _ _), hvars _ (fun _ _ => rfl), rfl, ?_, ?_⟩, ?_⟩
    · intro b off hp
      have hin : MemPlace.cell b off ∈ before := by rw [hps]; simpa using hp
      rw [hb.frozen (hlt _ hin)]
      exact hz b off hin
    · intro ha
      have := hn ha
      rw [hps] at this
      simpa using this
    · intro p hp _
      rw [hps]
      simpa using hp
end

theorem own : ownKnob Try.prog.godebug = none := by kernel_rfl
theorem laidVars_split {P : Program} {w : World} : ∀ (l l' : List (String × DataW Unit)) (ps : List MemPlace), DataW.LaidVars P w (l ++ l') ps → ∃ p p', DataW.LaidVars P w l p ∧ DataW.LaidVars P w l' p' ∧ ps = p ++ p'
  | [], l', ps, h => ⟨[], ps, rfl, h, rfl⟩
  | (n, d) :: l, l', ps, h => by
    obtain ⟨g, t, cs, fuel, p, q, h1, h2, h3, h4, hq, e⟩ := h
    obtain ⟨p1, p2, h5, h6, rfl⟩ := laidVars_split l l' q hq
    exact ⟨_, p2, ⟨g, t, cs, fuel, p, p1, h1, h2, h3, h4, h5, rfl⟩, h6, by rw [e]; simp⟩
theorem laidMet_split {P : Program} {w : World} {l l' : List (String × DataW Unit)} (h : laidMet P (l ++ l') w) : laidMet P l w ∧ laidMet P l' w := by
  obtain ⟨ps, hv, hnd, hr⟩ := h
  obtain ⟨p, p', h1, h2, rfl⟩ := laidVars_split l l' ps hv
  exact ⟨⟨p, h1, List.Nodup.sublist (List.sublist_append_left _ _) hnd, fun b off hm => hr b off (List.mem_append_left _ hm)⟩,
    ⟨p', h2, List.Nodup.sublist (List.sublist_append_right _ _) hnd, fun b off hm => hr b off (List.mem_append_right _ hm)⟩⟩
/-- A string argument's length is within the form's reach. -/
theorem reach_string {H : Type} {P : Program} {ts : List TypeId} {ds : List (DataW H)} (hz : (DataW.weightsEach P ts ds).all (· ≤ reachBytes) = true) (j : Nat) {t : TypeId} {l : List UInt8} (ht : ts[j]? = some t) (hd : ds[j]? = some (.lit (.string l))) : l.length ≤ 140737488351232 :=
  of_decide_eq_true (List.all_eq_true.1 hz l.length (DataW.weights_mem_each ht hd l.length (by simp [DataW.weights])))
theorem laidMet_nil (P : Program) (w : World) : laidMet P [] w := ⟨[], rfl, List.nodup_nil, fun _ _ h => by cases h⟩
end Go.Proofs.Ytlnhpeghgabnkaa
