/-
  Layer 25: packets, messages; a Net in memory. No statement of the seat is proved here.
-/
import Derived.Test.YtlnhpeghgabnkaaRow
namespace Go.Proofs.Ytlnhpeghgabnkaa
open Go.RowKit

structure Msg where
  r : Int
  k : Int
  t : ByteArray
  a : Int
  m : Int
  c : ByteArray
  p : ByteArray
structure Ans where
  r : Int
  k : Int
  t : ByteArray
structure Pk where
  b : Bool
  m : Msg
  a : Ans
def Msg.cs (m : Msg) : List Value := [.int .i64 m.r, .int .i64 m.k, .string m.t, .int .i64 m.a, .int .i64 m.m, .string m.c, .string m.p]
def Ans.cs (a : Ans) : List Value := [.int .i64 a.r, .int .i64 a.k, .string a.t]
def Pk.cs (p : Pk) : List Value := [.bool p.b, .int .i64 p.m.r, .int .i64 p.m.k, .string p.m.t, .int .i64 p.m.a, .int .i64 p.m.m, .string p.m.c, .string p.m.p, .int .i64 p.a.r, .int .i64 p.a.k, .string p.a.t]
def Msg.zero : Msg := ⟨0, 0, ⟨#[]⟩, 0, 0, ⟨#[]⟩, ⟨#[]⟩⟩
def Ans.zero : Ans := ⟨0, 0, ⟨#[]⟩⟩
def Pk.zero : Pk := ⟨false, Msg.zero, Ans.zero⟩
/-- The packet of a message, of an answer. -/
def pkM (m : Msg) : Pk := ⟨false, m, Ans.zero⟩
def pkA (a : Ans) : Pk := ⟨true, Msg.zero, a⟩
noncomputable def EM : Elt Try.prog Msg := Elt.of 27 38 7 80 Msg.cs (.agg Msg.zero.cs.toArray) Try.underlying27 (by kernel_rfl) rfl (by decide) (by decide) (fun _ => rfl)
  (fun x u hu => by simp only [Msg.cs, List.mem_cons, List.not_mem_nil, or_false] at hu; rcases hu with rfl | rfl | rfl | rfl | rfl | rfl | rfl <;> rfl)
noncomputable def EP : Elt Try.prog Pk := Elt.of 26 40 11 120 Pk.cs (.agg Pk.zero.cs.toArray) Try.underlying26 (by kernel_rfl) rfl (by decide) (by decide) (fun _ => rfl)
  (fun x u hu => by simp only [Pk.cs, List.mem_cons, List.not_mem_nil, or_false] at hu; rcases hu with rfl | rfl | rfl | rfl | rfl | rfl | rfl | rfl | rfl | rfl | rfl <;> rfl)
/-- Element i of a list of messages that is read, cell by cell. -/
theorem rdM {w : World} {B : Nat} {ad : Option Addr} {l : List Msg} (h : EM.Rd w B ad l) (i : Nat) (m : Msg) (hi : l[i]? = some m) : ∃ b off, ad = some ⟨b, off, none⟩ ∧ b < B ∧
    w.cell? ⟨b, off + i * 7, none⟩ = some (.int .i64 m.r) ∧ w.cell? ⟨b, off + i * 7 + 1, none⟩ = some (.int .i64 m.k) ∧ w.cell? ⟨b, off + i * 7 + 2, none⟩ = some (.string m.t) ∧ w.cell? ⟨b, off + i * 7 + 3, none⟩ = some (.int .i64 m.a) ∧
    w.cell? ⟨b, off + i * 7 + 4, none⟩ = some (.int .i64 m.m) ∧ w.cell? ⟨b, off + i * 7 + 5, none⟩ = some (.string m.c) ∧ w.cell? ⟨b, off + i * 7 + 6, none⟩ = some (.string m.p) := by
  obtain ⟨hl, rfl⟩ := List.getElem?_eq_some_iff.1 hi
  obtain ⟨b, off, e, hb, hc⟩ := h (by omega)
  exact ⟨b, off, e, hb, hc i hl 0 (by decide), hc i hl 1 (by decide), hc i hl 2 (by decide), hc i hl 3 (by decide), hc i hl 4 (by decide), hc i hl 5 (by decide), hc i hl 6 (by decide)⟩
theorem rdP {w : World} {B : Nat} {ad : Option Addr} {l : List Pk} (h : EP.Rd w B ad l) (i : Nat) (p : Pk) (hi : l[i]? = some p) : ∃ b off, ad = some ⟨b, off, none⟩ ∧ b < B ∧
    w.cell? ⟨b, off + i * 11, none⟩ = some (.bool p.b) ∧ w.cell? ⟨b, off + i * 11 + 1, none⟩ = some (.int .i64 p.m.r) ∧ w.cell? ⟨b, off + i * 11 + 2, none⟩ = some (.int .i64 p.m.k) ∧ w.cell? ⟨b, off + i * 11 + 3, none⟩ = some (.string p.m.t) ∧
    w.cell? ⟨b, off + i * 11 + 4, none⟩ = some (.int .i64 p.m.a) ∧ w.cell? ⟨b, off + i * 11 + 5, none⟩ = some (.int .i64 p.m.m) ∧ w.cell? ⟨b, off + i * 11 + 6, none⟩ = some (.string p.m.c) ∧ w.cell? ⟨b, off + i * 11 + 7, none⟩ = some (.string p.m.p) ∧
    w.cell? ⟨b, off + i * 11 + 8, none⟩ = some (.int .i64 p.a.r) ∧ w.cell? ⟨b, off + i * 11 + 9, none⟩ = some (.int .i64 p.a.k) ∧ w.cell? ⟨b, off + i * 11 + 10, none⟩ = some (.string p.a.t) := by
  obtain ⟨hl, rfl⟩ := List.getElem?_eq_some_iff.1 hi
  obtain ⟨b, off, e, hb, hc⟩ := h (by omega)
  exact ⟨b, off, e, hb, hc i hl 0 (by decide), hc i hl 1 (by decide), hc i hl 2 (by decide), hc i hl 3 (by decide), hc i hl 4 (by decide), hc i hl 5 (by decide), hc i hl 6 (by decide), hc i hl 7 (by decide), hc i hl 8 (by decide), hc i hl 9 (by decide), hc i hl 10 (by decide)⟩
/-- A Net in memory: its own block bn holds the slice v, the call's own, that holds these packets. -/
structure NetAt (w : World) (B bn : Nat) (v : Value) (l : List Pk) : Prop where
  base : B ≤ bn
  blk : Blk w bn 57 #[v]
  own : EP.Own w B v l
/-- What a call on a Net does: the list is l' now; it has changed the Net's blocks alone. -/
def NetGo (B bn : Nat) (v : Value) (l' : List Pk) (w w' : World) : Prop :=
  ∃ v', NetAt w' B bn v' l' ∧ Upd (fun k => k = bn ∨ v.ownBlock = some k) w w' ∧ ∀ k, v'.ownBlock = some k → v.ownBlock = some k ∨ w.heap.size ≤ k
theorem NetAt.lt {w : World} {B bn : Nat} {v : Value} {l : List Pk} (h : NetAt w B bn v l) : bn < w.heap.size := h.blk.lt
theorem NetAt.ne {w : World} {B bn : Nat} {v : Value} {l : List Pk} (h : NetAt w B bn v l) : v.ownBlock ≠ some bn := h.own.apart h.blk (by decide)
theorem NetAt.cell {w : World} {B bn : Nat} {v : Value} {l : List Pk} (h : NetAt w B bn v l) : w.cell? ⟨bn, 0, none⟩ = some v := h.blk.at_ 0
theorem NetAt.free {w : World} {B bn : Nat} {v : Value} {l : List Pk} (h : NetAt w B bn v l) : w.frozen? ⟨bn, 0, none⟩ = false := h.blk.free 0
theorem NetAt.upd {w w' : World} {S : Nat → Prop} {B bn : Nat} {v : Value} {l : List Pk} (h : NetAt w B bn v l) (hu : Upd S w w') (h1 : ¬ S bn) (h2 : ∀ g, v.ownBlock = some g → ¬ S g) : NetAt w' B bn v l := ⟨h.base, hu.blk h.blk h1, h.own.upd hu h2⟩
theorem NetAt.go {w w' : World} {B bn : Nat} {v : Value} {l : List Pk} (h : NetAt w B bn v l) (hu : Upd (fun _ => False) w w') : NetGo B bn v l w w' :=
  ⟨v, h.upd hu (fun h => h) (fun _ _ h => h), hu.mono (fun _ _ h => h.elim), fun _ hk => .inl hk⟩
theorem NetGo.refl {w : World} {B bn : Nat} {v : Value} {l : List Pk} (h : NetAt w B bn v l) : NetGo B bn v l w w := h.go (Upd.refl _ _)
theorem NetGo.trans {w w1 w2 : World} {B bn : Nat} {v v1 : Value} {l2 : List Pk} (hu : Upd (fun k => k = bn ∨ v.ownBlock = some k) w w1) (hl : ∀ k, v1.ownBlock = some k → v.ownBlock = some k ∨ w.heap.size ≤ k) (h : NetGo B bn v1 l2 w1 w2) : NetGo B bn v l2 w w2 := by
  obtain ⟨v2, a2, u2, f2⟩ := h
  refine ⟨v2, a2, hu.trans u2 (fun _ _ h => h) (fun j hj h => ?_), fun k hk => ?_⟩
  · rcases h with h | h
    · exact .inl h
    · exact (hl j h).imp (fun h => h) (fun h => by omega) |>.elim .inr (fun h => by omega)
  · rcases f2 k hk with h | h
    · exact hl k h
    · exact .inr (Nat.le_trans hu.size h)
/-- Behind a change of a Net's list, the store of the new slice. -/
theorem NetAt.put {w w1 : World} {B bn : Nat} {v v' : Value} {l l' : List Pk} (h : NetAt w B bn v l) (hu : Upd (fun k => v.ownBlock = some k) w w1) (ho : EP.Own w1 B v' l') : NetAt (w1.setCell ⟨bn, 0, none⟩ v') B bn v' l' ∧ Upd (fun k => k = bn ∨ v.ownBlock = some k) w (w1.setCell ⟨bn, 0, none⟩ v') := by
  have hb : Blk w1 bn 57 #[v] := hu.blk h.blk h.ne
  refine ⟨⟨h.base, hb.set v', ho.same fun g hg => Below.heap_setCell _ _ _ _ ?_⟩, ?_⟩
  · intro e
    subst e
    exact ho.apart hb (by decide) hg
  · exact (hu.mono fun _ _ h => .inr h).setCell _ _ fun _ => .inl rfl
theorem NetAt.storedU {w w1 : World} {B bn : Nat} {v v' : Value} {l l' : List Pk} (h : NetAt w B bn v l) (hu : Upd (fun k => v.ownBlock = some k) w w1) (ho : EP.Own w1 B v' l') (hl : ∀ k, v'.ownBlock = some k → v.ownBlock = some k ∨ w.heap.size ≤ k) : NetGo B bn v l' w (w1.setCell ⟨bn, 0, none⟩ v') :=
  ⟨v', (h.put hu ho).1, (h.put hu ho).2, hl⟩
theorem NetAt.stored {w w1 : World} {B bn : Nat} {v v' : Value} {l l' : List Pk} (h : NetAt w B bn v l) (ha : EP.Apd w B v l' v' w1) : NetGo B bn v l' w (w1.setCell ⟨bn, 0, none⟩ v') := h.storedU ha.upd ha.own ha.lies
theorem NetAt.drew {w : World} {B bn : Nat} {v : Value} {l : List Pk} (h : NetAt w B bn v l) : NetAt w.drew B bn v l := ⟨h.base, h.blk.drew, h.own.drew⟩
theorem NetAt.alloc {w : World} {B bn : Nat} {v : Value} {l : List Pk} (h : NetAt w B bn v l) (o : Obj) : NetAt (w.alloc o) B bn v l := ⟨h.base, h.blk.alloc o, h.own.alloc o⟩
theorem msg_cells {w : World} {g : Nat} {t : TypeId} {x0 x1 x2 x3 x4 x5 x6 : Value} (h : Blk w g t #[x0, x1, x2, x3, x4, x5, x6]) : w.cell? ⟨g, 0, none⟩ = some x0 ∧ w.cell? ⟨g, 1, none⟩ = some x1 ∧ w.cell? ⟨g, 2, none⟩ = some x2 ∧ w.cell? ⟨g, 3, none⟩ = some x3 ∧ w.cell? ⟨g, 4, none⟩ = some x4 ∧ w.cell? ⟨g, 5, none⟩ = some x5 ∧ w.cell? ⟨g, 6, none⟩ = some x6 :=
  ⟨h.at_ 0, h.at_ 1, h.at_ 2, h.at_ 3, h.at_ 4, h.at_ 5, h.at_ 6⟩
theorem pk_cells {w : World} {g : Nat} {t : TypeId} {x0 x1 x2 x3 x4 x5 x6 x7 x8 x9 x10 : Value} (h : Blk w g t #[x0, x1, x2, x3, x4, x5, x6, x7, x8, x9, x10]) : w.cell? ⟨g, 0, none⟩ = some x0 ∧ w.cell? ⟨g, 1, none⟩ = some x1 ∧ w.cell? ⟨g, 2, none⟩ = some x2 ∧ w.cell? ⟨g, 3, none⟩ = some x3 ∧ w.cell? ⟨g, 4, none⟩ = some x4 ∧ w.cell? ⟨g, 5, none⟩ = some x5 ∧ w.cell? ⟨g, 6, none⟩ = some x6 ∧ w.cell? ⟨g, 7, none⟩ = some x7 ∧ w.cell? ⟨g, 8, none⟩ = some x8 ∧ w.cell? ⟨g, 9, none⟩ = some x9 ∧ w.cell? ⟨g, 10, none⟩ = some x10 :=
  ⟨h.at_ 0, h.at_ 1, h.at_ 2, h.at_ 3, h.at_ 4, h.at_ 5, h.at_ 6, h.at_ 7, h.at_ 8, h.at_ 9, h.at_ 10⟩
/-- The blocks that lie in a world behind an append to a Net's list. -/
theorem NetAt.kept {w w1 : World} {B bn : Nat} {v v' : Value} {l l' : List Pk} (ha : EP.Apd w B v l' v' w1) {g : Nat} {t : TypeId} {cs : Array Value} (hb : Blk w g t cs) (hg : NetAt w B bn v l) (ht : t ≠ 40) : Blk w1 g t cs := ha.upd.blk hb (hg.own.apart hb ht)
/-- A Net's slice, written out. -/
theorem NetAt.form {w : World} {B bn : Nat} {v : Value} {l : List Pk} (h : NetAt w B bn v l) : ∃ ad n cap, v = .slice ad n cap ∧ l.length = n ∧ n ≤ cap := by
  rcases h.own.form with ⟨rfl, rfl⟩ | ⟨g, cap, rfl, hc, _⟩
  · exact ⟨none, 0, 0, rfl, rfl, Nat.le_refl _⟩
  · exact ⟨_, _, cap, rfl, rfl, hc⟩
def hasB (n : Nat) (i : Int) : Bool := decide (0 ≤ i) && decide (i < (n : Int))
end Go.Proofs.Ytlnhpeghgabnkaa
