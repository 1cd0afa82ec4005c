/-
  Layer 25: a Net beside two lists of packets of the statement's own.
-/
import Derived.Test.YtlnhpeghgabnkaaFixed
namespace Go.Proofs.Ytlnhpeghgabnkaa
open Go.RowKit

/-- A Net and two own lists, no block of one another's. -/
structure Tri (w : World) (B bn : Nat) (v : Value) (l : List Pk) (vi : Value) (li : List Pk) (vo : Value) (lo : List Pk) : Prop where
  net : NetAt w B bn v l
  i : EP.Own w B vi li
  o : EP.Own w B vo lo
  ni : Apart v vi
  no : Apart v vo
  io : Apart vi vo
theorem Tri.below {w w' : World} {B bn : Nat} {v vi vo : Value} {l li lo : List Pk} (h : Tri w B bn v l vi li vo lo) (hb : Below w.heap.size w w') : Tri w' B bn v l vi li vo lo :=
  ⟨h.net.below hb, h.i.below hb (Nat.le_refl _), h.o.below hb (Nat.le_refl _), h.ni, h.no, h.io⟩
theorem Tri.alloc {w : World} {B bn : Nat} {v vi vo : Value} {l li lo : List Pk} (h : Tri w B bn v l vi li vo lo) (o : Obj) : Tri (w.alloc o) B bn v l vi li vo lo := h.below ((Below.refl _ _).alloc (Nat.le_refl _) _)
theorem Tri.drewN {w : World} {B bn : Nat} {v vi vo : Value} {l li lo : List Pk} (h : Tri w B bn v l vi li vo lo) (n : Nat) : Tri (w.drewN n) B bn v l vi li vo lo := h.below ⟨rfl, rfl, rfl, Nat.le_refl _, fun _ _ => rfl⟩
theorem Tri.go {w w' : World} {B bn : Nat} {v vi vo : Value} {l l' li lo : List Pk} (h : Tri w B bn v l vi li vo lo) (hg : NetGo B bn v l' w w') : ∃ v', Tri w' B bn v' l' vi li vo lo := by
  obtain ⟨v', h1, h2, h3⟩ := hg
  refine ⟨v', ⟨h1, h.i.upd h2 (fun g hg e => ?_), h.o.upd h2 (fun g hg e => ?_), (h.ni.symm.lies h3 fun k hk => (h.i.lt k hk).2).symm, (h.no.symm.lies h3 fun k hk => (h.o.lt k hk).2).symm, h.io⟩⟩
  · rcases e with e | e
    · subst e; exact h.i.apart h.net.blk (by decide) hg
    · exact h.ni _ e hg
  · rcases e with e | e
    · subst e; exact h.o.apart h.net.blk (by decide) hg
    · exact h.no _ e hg
theorem Tri.app_i {w w' : World} {B bn : Nat} {v vi vo vi' : Value} {l li li' lo : List Pk} (h : Tri w B bn v l vi li vo lo) (ha : EP.Apd w B vi li' vi' w') : Tri w' B bn v l vi' li' vo lo :=
  ⟨h.net.upd ha.upd (fun e => h.i.apart h.net.blk (by decide) e) (fun g hg e => h.ni _ hg e), ha.own, h.o.upd ha.upd (fun g hg e => h.io _ e hg), h.ni.lies ha.lies fun k hk => (h.net.own.lt k hk).2, h.no, (h.io.symm.lies ha.lies fun k hk => (h.o.lt k hk).2).symm⟩
theorem Tri.app_o {w w' : World} {B bn : Nat} {v vi vo vo' : Value} {l li lo lo' : List Pk} (h : Tri w B bn v l vi li vo lo) (ha : EP.Apd w B vo lo' vo' w') : Tri w' B bn v l vi li vo' lo' :=
  ⟨h.net.upd ha.upd (fun e => h.o.apart h.net.blk (by decide) e) (fun g hg e => h.no _ hg e), h.i.upd ha.upd (fun g hg e => h.io _ hg e), ha.own, h.ni, h.no.lies ha.lies fun k hk => (h.net.own.lt k hk).2, h.io.lies ha.lies fun k hk => (h.i.lt k hk).2⟩
/-- What the statement began with lies as it lay behind a call on the Net. -/
theorem Tri.goB {w0 w w' : World} {B bn : Nat} {v vi vo : Value} {l l' li lo : List Pk} (h : Tri w B bn v l vi li vo lo) (hg : NetGo B bn v l' w w') (hB : Below B w0 w) (hB0 : B ≤ w0.heap.size) : Below B w0 w' := by
  obtain ⟨v', _, h2⟩ := h.net.next hg hB hB0
  exact h2
/-- A Net beside two own lists, the second an iterator's, whose variable lies in block x. -/
structure TriX (w : World) (B bn : Nat) (v : Value) (l : List Pk) (vi : Value) (li : List Pk) (x : Nat) (ad : Option Addr) (n cap : Nat) (lo : List Pk) : Prop where
  tri : Tri w B bn v l vi li (.slice ad n cap) lo
  box : Blk w x 26 #[.slice ad n cap]
theorem TriX.it {w : World} {B bn x n cap : Nat} {v vi : Value} {l li lo : List Pk} {ad : Option Addr} (h : TriX w B bn v l vi li x ad n cap lo) : ItAt w x lo := ⟨ad, n, cap, h.box, h.tri.o.mono fun _ _ => Nat.zero_le _⟩
theorem TriX.below {w w' : World} {B bn x n cap : Nat} {v vi : Value} {l li lo : List Pk} {ad : Option Addr} (h : TriX w B bn v l vi li x ad n cap lo) (hb : Below w.heap.size w w') : TriX w' B bn v l vi li x ad n cap lo := ⟨h.tri.below hb, h.box.below hb h.box.lt⟩
theorem TriX.go {w0 w w' : World} {B bn x n cap : Nat} {v vi : Value} {l l' li lo : List Pk} {ad : Option Addr} (h : TriX w B bn v l vi li x ad n cap lo) (hg : NetGo B bn v l' w w') (hB : Below B w0 w) (hB0 : B ≤ w0.heap.size) : ∃ v', TriX w' B bn v' l' vi li x ad n cap lo ∧ Below B w0 w' := by
  obtain ⟨v', h1⟩ := h.tri.go hg
  refine ⟨v', ⟨h1, ?_⟩, h.tri.goB hg hB hB0⟩
  obtain ⟨_, _, h2, _⟩ := hg
  refine h2.blk h.box fun e => ?_
  rcases e with rfl | e
  · exact absurd (h.box.type_eq h.tri.net.blk).1 (by decide)
  · exact h.tri.net.own.apart h.box (by decide) e
/-- An iterator made now. -/
theorem Tri.it {w w' : World} {B bn x n cap : Nat} {v vi : Value} {l li lo : List Pk} {ad : Option Addr} (hn : NetAt w B bn v l) (hi : EP.Own w B vi li) (hp : Apart v vi) (hB : B ≤ w.heap.size) (hb : Below w.heap.size w w') (hx : Blk w' x 26 #[.slice ad n cap]) (ho : EP.Own w' w.heap.size (.slice ad n cap) lo) : TriX w' B bn v l vi li x ad n cap lo :=
  ⟨⟨hn.below hb, hi.below hb (Nat.le_refl _), ho.mono fun k hk => Nat.le_trans hB (ho.lt k hk).1, hp, fun k h1 h2 => by have := (hn.own.lt k h1).2; have := (ho.lt k h2).1; omega, fun k h1 h2 => by have := (hi.lt k h1).2; have := (ho.lt k h2).1; omega⟩, hx⟩
end Go.Proofs.Ytlnhpeghgabnkaa
