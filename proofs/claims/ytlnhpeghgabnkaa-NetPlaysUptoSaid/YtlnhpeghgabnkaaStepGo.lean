/-
  Layer 25: what a step of the statement's script does: the Net and the reference's list of packets tell the same.
-/
import Derived.Test.YtlnhpeghgabnkaaFair
namespace Go.Proofs.Ytlnhpeghgabnkaa
open Go.RowKit

/-- A Net and the reference's list hold l' now; the Net's blocks alone have changed. -/
def StepGo (B bn : Nat) (v vh vh' : Value) (l' : List Pk) (w w' : World) : Prop :=
  ∃ v', NetAt w' B bn v' l' ∧ EP.Own w' B vh' l' ∧ Apart v' vh' ∧ Upd (fun k => k = bn ∨ v.ownBlock = some k) w w' ∧ (∀ k, v'.ownBlock = some k → v.ownBlock = some k ∨ w.heap.size ≤ k) ∧ (∀ k, vh'.ownBlock = some k → vh.ownBlock = some k ∨ w.heap.size ≤ k)
theorem upd_pre {w w1 w2 : World} {S : Nat → Prop} (hb : Below w.heap.size w w1) (h : Upd S w1 w2) : Upd S w w2 :=
  (Upd.of_below hb).trans h (fun _ _ h => h.elim) (fun _ _ h => h)
theorem upd_post {w w1 w2 : World} {S : Nat → Prop} (h : Upd S w w1) (hb : Below w1.heap.size w1 w2) : Upd S w w2 :=
  h.trans (Upd.of_below hb) (fun _ _ h => h) (fun _ _ h => h.elim)
/-- The reference's new list first, then the Net. -/
theorem stepgo_new {B bn : Nat} {v vh vh' : Value} {l l' : List Pk} {w w1 w2 w3 : World} (h : NetAt w B bn v l) (hBw : B ≤ w.heap.size) (hb : Below w.heap.size w w1) (hn : EP.Own w1 w.heap.size vh' l') (hg : NetGo B bn v l' w1 w2) (hb3 : Below w2.heap.size w2 w3) : StepGo B bn v vh vh' l' w w3 := by
  obtain ⟨v', a1, a2, a3⟩ := hg
  have hn1 := h.below hb
  have hlt := h.own.lt
  have hk : EP.Own w2 w.heap.size vh' l' := hn.upd a2 fun g hg e => by
    rcases e with rfl | e
    · exact hn.apart hn1.blk (by decide) hg
    · have := (hn.lt g hg).1; have := (hlt g e).2; omega
  refine ⟨v', a1.below hb3, (hk.mono fun k hk' => Nat.le_trans hBw (hk.lt k hk').1).below hb3 (Nat.le_refl _), fun k h1 h2 => ?_, upd_post (upd_pre hb a2) hb3, fun k hk' => ?_, fun k hk' => .inr (hn.lt k hk').1⟩
  · have h3 := hn.lt k h2
    rcases a3 k h1 with h4 | h4
    · have := (hlt k h4).2; omega
    · omega
  · exact (a3 k hk').imp id fun h => Nat.le_trans hb.size h
/-- The Net first, then the reference's new list. -/
theorem stepgo_after {B bn : Nat} {v vh vh' : Value} {l l' : List Pk} {w w1 w2 w3 : World} (_h : NetAt w B bn v l) (hBw : B ≤ w.heap.size) (hb : Below w.heap.size w w1) (hg : NetGo B bn v l' w1 w2) (hb3 : Below w2.heap.size w2 w3) (hn : EP.Own w3 w2.heap.size vh' l') : StepGo B bn v vh vh' l' w w3 := by
  obtain ⟨v', a1, a2, a3⟩ := hg
  have h12 := a2.size
  refine ⟨v', a1.below hb3, hn.mono fun k hk => ?_, fun k h1 h2 => ?_, upd_post (upd_pre hb a2) hb3, fun k hk' => ?_, fun k hk' => .inr ?_⟩
  · have := (hn.lt k hk).1; have := hb.size; omega
  · have := (hn.lt k h2).1; have := (a1.own.lt k h1).2; omega
  · exact (a3 k hk').imp id fun h => Nat.le_trans hb.size h
  · have := (hn.lt k hk').1; have := hb.size; omega
/-- Nothing has changed. -/
theorem stepgo_same {B bn : Nat} {v vh : Value} {l : List Pk} {w w1 : World} (h : NetAt w B bn v l) (hh : EP.Own w B vh l) (ha : Apart v vh) (hb : Below w.heap.size w w1) : StepGo B bn v vh vh l w w1 :=
  ⟨v, h.below hb, hh.below hb (Nat.le_refl _), ha, (Upd.of_below hb).mono (fun _ _ h => h.elim), fun _ hk => .inl hk, fun _ hk => .inl hk⟩
end Go.Proofs.Ytlnhpeghgabnkaa
