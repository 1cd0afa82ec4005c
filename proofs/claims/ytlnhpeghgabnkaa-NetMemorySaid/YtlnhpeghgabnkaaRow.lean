/-
  Rows of elements of several cells, over any program: a slice of the call's own, a slice that is read, what a step may have changed. No statement of the seat is proved here.
-/
import Derived.Test.YtlnhpeghgabnkaaProg
import Derived.WalkKit
import Derived.Below
import Derived.Lib.Hide
import Derived.KernelRfl
import Derived.OwnWalk
import Derived.Maps.AppendAt
import Derived.Deep.DeepAppendWide
import Derived.Deep.AppendLies
import Derived.Deep.DeepAppendRoom
import Derived.Laws.OwnMore
import Derived.Laws.AppendOwnNone
import Derived.Laws.IdiomCopy
import Derived.Deep.RegionLaw
namespace Go.Proofs.Ytlnhpeghgabnkaa
open Go.RowKit

theorem hide {p : Prop} (h : p) : Hid p := h
theorem unhide {p : Prop} (h : Hid p) : p := h
/-- Block g is just these cells. -/
def Blk (w : World) (g : Nat) (t : TypeId) (cs : Array Value) : Prop := w.heap[g]? = some (.cells cs t (0, 0))
theorem Blk.lt {w : World} {g : Nat} {t : TypeId} {cs : Array Value} (h : Blk w g t cs) : g < w.heap.size := by
  rcases Nat.lt_or_ge g w.heap.size with h' | h'
  · exact h'
  · unfold Blk at h; rw [Array.getElem?_eq_none h'] at h; cases h
theorem Blk.at_ {w : World} {g : Nat} {t : TypeId} {cs : Array Value} (h : Blk w g t cs) (j : Nat) : w.cell? ⟨g, j, none⟩ = cs[j]? := cell_of_row w g j cs t (0, 0) h
theorem Blk.free {w : World} {g : Nat} {t : TypeId} {cs : Array Value} (h : Blk w g t cs) (j : Nat) : w.frozen? ⟨g, j, none⟩ = false := frozen_of_row w g j cs t h
theorem Blk.new (w : World) (cs : Array Value) (t : TypeId) : Blk (w.alloc (.cells cs t)) w.heap.size t cs := heap_alloc_new w _
theorem Blk.alloc {w : World} {g : Nat} {t : TypeId} {cs : Array Value} (h : Blk w g t cs) (o : Obj) : Blk (w.alloc o) g t cs := (Below.heap_alloc w o g h.lt).trans h
theorem Blk.below {w w' : World} {g B : Nat} {t : TypeId} {cs : Array Value} (h : Blk w g t cs) (hb : Below B w w') (hB : g < B) : Blk w' g t cs := (hb.block g hB).trans h
theorem Blk.drew {w : World} {g : Nat} {t : TypeId} {cs : Array Value} (h : Blk w g t cs) : Blk w.drew g t cs := h
theorem Blk.set {w : World} {g j : Nat} {t : TypeId} {cs : Array Value} (h : Blk w g t cs) (u : Value) : Blk (w.setCell ⟨g, j, none⟩ u) g t (cs.setIfInBounds j u) := heap_setCell_same w g j cs t u h
theorem Blk.other {w : World} {g : Nat} {t : TypeId} {cs : Array Value} (h : Blk w g t cs) {a : Addr} (ha : g ≠ a.block) (u : Value) : Blk (w.setCell a u) g t cs := (Below.heap_setCell w a u g ha).trans h
theorem Blk.type_eq {w : World} {g : Nat} {t t' : TypeId} {cs cs' : Array Value} (h : Blk w g t cs) (h' : Blk w g t' cs') : t = t' ∧ cs = cs' := by
  unfold Blk at h h'
  rw [h] at h'
  injection h' with h'
  injection h' with h1 h2
  exact ⟨h2, h1⟩
/-- What a step may have changed: the blocks of S and new ones. -/
structure Upd (S : Nat → Prop) (w w' : World) : Prop where
  os : w'.os = w.os
  tape : w'.tape = w.tape
  output : w'.output = w.output
  size : w.heap.size ≤ w'.heap.size
  block : ∀ k, k < w.heap.size → ¬ S k → w'.heap[k]? = w.heap[k]?
theorem Upd.refl (S : Nat → Prop) (w : World) : Upd S w w := ⟨rfl, rfl, rfl, Nat.le_refl _, fun _ _ _ => rfl⟩
theorem Upd.trans {S S' S'' : Nat → Prop} {a b c : World} (h : Upd S a b) (k : Upd S' b c) (h1 : ∀ j, j < a.heap.size → S j → S'' j) (h2 : ∀ j, j < a.heap.size → S' j → S'' j) : Upd S'' a c :=
  ⟨k.os.trans h.os, k.tape.trans h.tape, k.output.trans h.output, Nat.le_trans h.size k.size, fun i hi hn => (k.block i (Nat.lt_of_lt_of_le hi h.size) (fun h' => hn (h2 i hi h'))).trans (h.block i hi (fun h' => hn (h1 i hi h')))⟩
theorem Upd.mono {S S' : Nat → Prop} {a b : World} (h : Upd S a b) (h1 : ∀ j, j < a.heap.size → S j → S' j) : Upd S' a b := ⟨h.os, h.tape, h.output, h.size, fun i hi hn => h.block i hi (fun h' => hn (h1 i hi h'))⟩
theorem Upd.below {S : Nat → Prop} {w w' : World} (h : Upd S w w') (B : Nat) (hB : B ≤ w.heap.size) (hS : ∀ k, S k → B ≤ k) : Below B w w' :=
  ⟨h.os, h.tape, h.output, h.size, fun k hk => h.block k (Nat.lt_of_lt_of_le hk hB) (fun h' => by have := hS k h'; omega)⟩
theorem Upd.of_below {w w' : World} (h : Below w.heap.size w w') : Upd (fun _ => False) w w' := ⟨h.os, h.tape, h.output, h.size, fun k hk _ => h.block k hk⟩
theorem Upd.alloc {S : Nat → Prop} {a w : World} (h : Upd S a w) (o : Obj) : Upd S a (w.alloc o) :=
  ⟨h.os, h.tape, h.output, Nat.le_trans h.size (by simp), fun k hk hn => (Below.heap_alloc w o k (Nat.lt_of_lt_of_le hk h.size)).trans (h.block k hk hn)⟩
theorem Upd.drew {S : Nat → Prop} {a w : World} (h : Upd S a w) : Upd S a w.drew := ⟨h.os, h.tape, h.output, h.size, h.block⟩
theorem Upd.setCell {S : Nat → Prop} {a w : World} (h : Upd S a w) (p : Addr) (u : Value) (hp : p.block < a.heap.size → S p.block) : Upd S a (w.setCell p u) :=
  ⟨h.os, h.tape, h.output, Nat.le_trans h.size (by simp [World.setCell]), fun k hk hn => (Below.heap_setCell w p u k (fun e => by subst e; exact hn (hp hk))).trans (h.block k hk hn)⟩
theorem Upd.grown {S : Nat → Prop} {a w w' : World} {row : Option Nat} (h : Upd S a w) (hg : w.grownBy w' row) (hr : ∀ k, row = some k → k < a.heap.size → S k) : Upd S a w' :=
  ⟨hg.os.trans h.os, hg.tape.trans h.tape, hg.output.trans h.output, Nat.le_trans h.size hg.size, fun k hk hn => (hg.block k (Nat.lt_of_lt_of_le hk h.size) (fun e => hn (hr k e.symm hk))).trans (h.block k hk hn)⟩
theorem Upd.setCells {S : Nat → Prop} {a : World} (b : Nat) (hb : b < a.heap.size → S b) : ∀ (vs : List Value) (o : Nat) (w : World), Upd S a w → Upd S a (w.setCells b o vs)
  | [], _, _, h => h
  | v :: r, o, _, h => Upd.setCells b hb r (o + 1) _ (h.setCell ⟨b, o, none⟩ v hb)
theorem Upd.blk {S : Nat → Prop} {w w' : World} (h : Upd S w w') {g : Nat} {t : TypeId} {cs : Array Value} (hb : Blk w g t cs) (hn : ¬ S g) : Blk w' g t cs := (h.block g hb.lt hn).trans hb
theorem Upd.cell {S : Nat → Prop} {w w' : World} (h : Upd S w w') {p : Addr} (hp : p.block < w.heap.size) (hn : ¬ S p.block) : w'.cell? p = w.cell? p := World.cell?_of_block (w := w) (h.block p.block hp hn)
theorem addr_add0 (b o j : Nat) : (⟨b, o, none⟩ : Addr).add j = ⟨b, o + j, none⟩ := by unfold Addr.add; split <;> simp_all

/-- A kind of elements: the slice's type, the element's, its cells. -/
structure Elt (P : Program) (α : Type) where
  t : TypeId
  e : TypeId
  size : Nat
  bytes : Nat
  cs : α → List Value
  i : TypeInfo
  z : Value
  ht : P.underlying t = some (.slice e)
  hi : P.info? e = some i
  hz : i.zero = some z
  hsize : i.size = size
  hby : i.bytes = bytes
  hzs : z.cells.size = size
  pos : 0 < size
  small : bytes ≤ 120
  len : ∀ x, (cs x).length = size
  one : ∀ x, ∀ u ∈ cs x, u.oneCell' = true
variable {P : Program} {α : Type}
noncomputable def Elt.of (t e : TypeId) (size bytes : Nat) (cs : α → List Value) (z : Value) (ht : P.underlying t = some (.slice e)) (h : (P.info? e).map (fun i => (i.zero, i.size, i.bytes)) = some (some z, size, bytes))
    (hzs : z.cells.size = size) (pos : 0 < size) (small : bytes ≤ 120) (len : ∀ x, (cs x).length = size) (one : ∀ x, ∀ u ∈ cs x, u.oneCell' = true) : Elt P α :=
  { t, e, size, bytes, cs, z, ht, hzs, pos, small, len, one, i := (info_parts h).choose, hi := (info_parts h).choose_spec.1, hz := (info_parts h).choose_spec.2.1, hsize := (info_parts h).choose_spec.2.2.1, hby := (info_parts h).choose_spec.2.2.2 }
theorem Elt.flat_len (E : Elt P α) (l : List α) : (l.flatMap E.cs).length = l.length * E.size := by
  induction l with
  | nil => simp
  | cons p l ih => rw [List.flatMap_cons, List.length_append, ih, List.length_cons, E.len, Nat.add_mul, Nat.one_mul, Nat.add_comm]
theorem Elt.flat_one (E : Elt P α) (l : List α) : ∀ u ∈ l.flatMap E.cs, u.oneCell' = true := fun u hu => by
  obtain ⟨q, _, hq⟩ := List.mem_flatMap.1 hu
  exact E.one q u hq
theorem Elt.flat_at (E : Elt P α) : ∀ (l : List α) (i j : Nat) (hi : i < l.length) (_ : j < E.size), (l.flatMap E.cs)[i * E.size + j]? = (E.cs l[i])[j]?
  | p :: ps, 0, j, _, hj => by
    rw [List.flatMap_cons, Nat.zero_mul, Nat.zero_add, List.getElem?_append_left (by rw [E.len]; exact hj)]
    rfl
  | p :: ps, i + 1, j, hi, hj => by
    rw [List.flatMap_cons, List.getElem?_append_right (by rw [E.len, Nat.add_mul]; omega)]
    have e : (i + 1) * E.size + j - (E.cs p).length = i * E.size + j := by rw [E.len, Nat.add_mul]; omega
    rw [e, E.flat_at ps i j (by simpa using hi) hj]
    rfl
theorem Elt.flat_take (E : Elt P α) (l : List α) (n : Nat) : (l.flatMap E.cs).take (n * E.size) = (l.take n).flatMap E.cs := by
  induction l generalizing n with
  | nil => simp
  | cons p l ih =>
    cases n with
    | zero => simp
    | succ n =>
      rw [List.flatMap_cons, List.take_succ_cons, List.flatMap_cons, ← ih n, List.take_append, E.len]
      have e : (n + 1) * E.size - E.size = n * E.size := by rw [Nat.add_mul]; omega
      rw [e, List.take_of_length_le (by rw [E.len, Nat.add_mul]; omega)]
theorem Elt.flat_drop (E : Elt P α) (l : List α) (n : Nat) : (l.flatMap E.cs).drop (n * E.size) = (l.drop n).flatMap E.cs := by
  induction l generalizing n with
  | nil => simp
  | cons p l ih =>
    cases n with
    | zero => simp
    | succ n =>
      rw [List.flatMap_cons, List.drop_succ_cons, ← ih n, List.drop_append, E.len]
      have e : (n + 1) * E.size - E.size = n * E.size := by rw [Nat.add_mul]; omega
      rw [e, List.drop_of_length_le (by rw [E.len, Nat.add_mul]; omega), List.nil_append]
/-- The value v is a slice of the call's own (from block B on) that holds the elements l. -/
def Elt.Own (E : Elt P α) (w : World) (B : Nat) (v : Value) (l : List α) : Prop := w.ownsRow B E.e E.size v l.length (l.flatMap E.cs)
theorem Elt.Own.nil (E : Elt P α) (w : World) (B : Nat) : E.Own w B (.slice none 0 0) [] := World.ownsRow_nil _ _ _ _
theorem Elt.Own.alloc {E : Elt P α} {w : World} {B : Nat} {v : Value} {l : List α} (h : E.Own w B v l) (o : Obj) : E.Own (w.alloc o) B v l := World.ownsRow.alloc h o
theorem Elt.Own.drew {E : Elt P α} {w : World} {B : Nat} {v : Value} {l : List α} (h : E.Own w B v l) : E.Own w.drew B v l := h
theorem Elt.Own.lt {E : Elt P α} {w : World} {B : Nat} {v : Value} {l : List α} (h : E.Own w B v l) : ∀ k, v.ownBlock = some k → B ≤ k ∧ k < w.heap.size := World.ownsRow.lt h
theorem Elt.Own.mono {E : Elt P α} {w : World} {B B' : Nat} {v : Value} {l : List α} (h : E.Own w B v l) (hB : ∀ k, v.ownBlock = some k → B' ≤ k) : E.Own w B' v l := by
  refine ⟨h.1, ?_⟩
  rcases h.2 with ⟨rfl, h0⟩ | ⟨g, cap, cur, rfl, hb, hr⟩
  · exact .inl ⟨rfl, h0⟩
  · exact .inr ⟨g, cap, cur, rfl, hB g rfl, hr⟩
/-- The own block, known whole. -/
theorem Elt.Own.blk {E : Elt P α} {w : World} {B : Nat} {v : Value} {l : List α} (h : E.Own w B v l) {g : Nat} (hg : v.ownBlock = some g) : ∃ cur, Blk w g E.e cur := by
  rcases h.2 with ⟨rfl, _⟩ | ⟨g', cap, cur, rfl, _, hh, _⟩
  · simp [Value.ownBlock] at hg
  · simp [Value.ownBlock] at hg; subst hg; exact ⟨cur, hh⟩
theorem Elt.Own.apart {E : Elt P α} {w : World} {B : Nat} {v : Value} {l : List α} (h : E.Own w B v l) {g : Nat} {t : TypeId} {cs : Array Value} (hb : Blk w g t cs) (ht : t ≠ E.e) : v.ownBlock ≠ some g := fun e => by
  obtain ⟨cur, hc⟩ := h.blk e
  exact ht (hb.type_eq hc).1
theorem Elt.Own.same {E : Elt P α} {w w' : World} {B : Nat} {v : Value} {l : List α} (h : E.Own w B v l) (hs : ∀ g, v.ownBlock = some g → w'.heap[g]? = w.heap[g]?) : E.Own w' B v l := by
  refine ⟨h.1, ?_⟩
  rcases h.2 with h0 | ⟨g, cap, cur, rfl, hB, hh, hr⟩
  · exact .inl h0
  · exact .inr ⟨g, cap, cur, rfl, hB, (hs g rfl).trans hh, hr⟩
theorem Elt.Own.below {E : Elt P α} {w w1 : World} {B B' : Nat} {v : Value} {l : List α} (h : E.Own w B v l) (hb : Below B' w w1) (hB' : w.heap.size ≤ B') : E.Own w1 B v l :=
  h.same fun g hg => hb.block g (Nat.lt_of_lt_of_le (h.lt g hg).2 hB')
theorem Elt.Own.upd {E : Elt P α} {w w1 : World} {S : Nat → Prop} {B : Nat} {v : Value} {l : List α} (h : E.Own w B v l) (hb : Upd S w w1) (hn : ∀ g, v.ownBlock = some g → ¬ S g) : E.Own w1 B v l :=
  h.same fun g hg => hb.block g (h.lt g hg).2 (hn g hg)
theorem Elt.Own.form {E : Elt P α} {w : World} {B : Nat} {v : Value} {l : List α} (h : E.Own w B v l) : (v = .slice none 0 0 ∧ l = []) ∨ ∃ g cap, v = .slice (some ⟨g, 0, none⟩) l.length cap ∧ l.length ≤ cap ∧ cap ≤ maxLen ∧ B ≤ g ∧ g < w.heap.size := by
  rcases h.2 with ⟨h1, h0⟩ | ⟨g, cap, cur, hv, hb, hg, hc, hm, _⟩
  · exact .inl ⟨h1, List.eq_nil_of_length_eq_zero h0⟩
  · exact .inr ⟨g, cap, hv, hc, hm, hb, Blk.lt (t := E.e) (cs := cur) hg⟩
/-- A slice that reads as the elements l; its block lies below B. -/
def Elt.Rd (E : Elt P α) (w : World) (B : Nat) (ad : Option Addr) (l : List α) : Prop :=
  0 < l.length → ∃ b off, ad = some ⟨b, off, none⟩ ∧ b < B ∧ ∀ i (h : i < l.length) j, j < E.size → w.cell? ⟨b, off + i * E.size + j, none⟩ = (E.cs l[i])[j]?
theorem Elt.Rd.nil (E : Elt P α) (w : World) (B : Nat) (ad : Option Addr) : E.Rd w B ad [] := fun h => by simp at h
theorem Elt.Rd.mono {E : Elt P α} {w : World} {B B' : Nat} {ad : Option Addr} {l : List α} (h : E.Rd w B ad l) (hB : B ≤ B') : E.Rd w B' ad l := fun h0 => by
  obtain ⟨b, off, e, hb, hc⟩ := h h0
  exact ⟨b, off, e, Nat.lt_of_lt_of_le hb hB, hc⟩
theorem Elt.Rd.same {E : Elt P α} {w w' : World} {B : Nat} {ad : Option Addr} {l : List α} (h : E.Rd w B ad l) (hs : ∀ b off, ad = some ⟨b, off, none⟩ → b < B → w'.heap[b]? = w.heap[b]?) : E.Rd w' B ad l := fun h0 => by
  obtain ⟨b, off, e, hb, hc⟩ := h h0
  have hk := hs b off e hb
  refine ⟨b, off, e, hb, fun i hi j hj => ?_⟩
  rw [World.cell?_of_block (a := ⟨b, off + i * E.size + j, none⟩) hk]
  exact hc i hi j hj
theorem Elt.Rd.below {E : Elt P α} {w w' : World} {B B' : Nat} {ad : Option Addr} {l : List α} (h : E.Rd w B ad l) (hb : Below B' w w') (hB : B ≤ B') : E.Rd w' B ad l :=
  h.same fun b _ _ hlt => hb.block b (Nat.lt_of_lt_of_le hlt hB)
theorem Elt.Rd.later {E : Elt P α} {w w' : World} {ad : Option Addr} {l : List α} (h : E.Rd w w.heap.size ad l) (hb : Below w.heap.size w w') : E.Rd w' w'.heap.size ad l := (h.below hb (Nat.le_refl _)).mono hb.size
theorem Elt.Rd.take {E : Elt P α} {w : World} {B : Nat} {ad : Option Addr} {l : List α} (h : E.Rd w B ad l) (m : Nat) : E.Rd w B ad (l.take m) := fun h0 => by
  have h0' : 0 < l.length := by rw [List.length_take] at h0; omega
  obtain ⟨b, off, e, hb, hc⟩ := h h0'
  refine ⟨b, off, e, hb, fun i hi j hj => ?_⟩
  rw [hc i (by rw [List.length_take] at hi; omega) j hj, List.getElem_take]
theorem Elt.Rd.drop {E : Elt P α} {w : World} {B n cap j : Nat} {ad A : Option Addr} {l : List α} (h : E.Rd w B ad l) (hl : l.length = n) (hle : n ≤ cap) (hA : (if cap = j then ad else ad.map (fun a => a.add (j * E.size))) = A) : E.Rd w B A (l.drop j) := by
  intro h0
  rw [List.length_drop] at h0
  obtain ⟨b, off, rfl, hlt, hc⟩ := h (by omega)
  rw [if_neg (by omega), Option.map_some, addr_add0] at hA
  subst hA
  refine ⟨b, off + j * E.size, rfl, hlt, fun i hi k hk => ?_⟩
  rw [List.length_drop] at hi
  have := hc (j + i) (by omega) k hk
  rw [Nat.add_mul, ← Nat.add_assoc] at this
  rw [this, List.getElem_drop]
/-- Two values own no block together. -/
def Apart (u v : Value) : Prop := ∀ k, u.ownBlock = some k → v.ownBlock ≠ some k
theorem Apart.symm {u v : Value} (h : Apart u v) : Apart v u := fun k h1 h2 => h k h2 h1
theorem Apart.nil (u : Value) (n c : Nat) : Apart u (.slice none n c) := fun _ _ h => by simp [Value.ownBlock] at h
theorem Apart.nil_left (u : Value) (n c : Nat) : Apart (.slice none n c) u := fun _ h => by simp [Value.ownBlock] at h
theorem Apart.lies {u v v' : Value} {n : Nat} (h : Apart u v) (hl : ∀ k, v'.ownBlock = some k → v.ownBlock = some k ∨ n ≤ k) (hu : ∀ k, u.ownBlock = some k → k < n) : Apart u v' := fun k h1 h2 => by
  rcases hl k h2 with h3 | h3
  · exact h k h1 h3
  · have := hu k h1; omega
/-- An own list, as one that is read. -/
theorem Elt.Own.rd {E : Elt P α} {w : World} {B n cap : Nat} {ad : Option Addr} {l : List α} (h : E.Own w B (.slice ad n cap) l) : E.Rd w w.heap.size ad l := fun h0 => by
  have hlt := h.lt
  rcases h.2 with ⟨h1, hz⟩ | ⟨g, cap', cur, hv, hb, hg, hc, _, hsz, htk⟩
  · simp at h1; omega
  · simp only [Value.slice.injEq] at hv
    obtain ⟨rfl, rfl, rfl⟩ := hv
    refine ⟨g, 0, rfl, (hlt g rfl).2, fun i hi j hj => ?_⟩
    have hlt2 : i * E.size + j < l.length * E.size := by
      have : (i + 1) * E.size ≤ l.length * E.size := Nat.mul_le_mul_right _ hi
      rw [Nat.add_mul] at this
      omega
    rw [Nat.zero_add, cell_of_row w g _ cur E.e (0, 0) hg, ← E.flat_at l i j hi hj, ← htk, List.getElem?_take, if_pos hlt2]
    simp
theorem Elt.Own.len_eq {E : Elt P α} {w : World} {B n cap : Nat} {ad : Option Addr} {l : List α} (h : E.Own w B (.slice ad n cap) l) : l.length = n ∧ n ≤ cap := by
  rcases h.2 with ⟨h1, hz⟩ | ⟨g, cap', cur, hv, hb, hg, hc, _⟩
  · simp at h1; omega
  · simp only [Value.slice.injEq] at hv
    obtain ⟨_, rfl, rfl⟩ := hv
    exact ⟨rfl, hc⟩
/-- A slice literal of elements, made now. -/
theorem Elt.Own.lit {E : Elt P α} {w : World} {l : List α} {n : Nat} (B : Nat) (hB : B ≤ w.heap.size) (hn : l.length = n) (hm : n ≤ 1099511627776) (cs : Array Value) (hcs : cs.toList = l.flatMap E.cs) : E.Own (w.alloc (.cells cs E.e)) B (.slice (some ⟨w.heap.size, 0, none⟩) n n) l := by
  subst hn
  have h1 : cs.size = l.length * E.size := by rw [← Array.length_toList, hcs, E.flat_len]
  have := World.ownsRow_lit (e := E.e) (size := E.size) w cs l.length hB (by unfold maxLen; omega) h1
  rw [hcs] at this
  exact this
theorem cells_new (W : World) (l : List Value) (t : TypeId) : ∀ j u, l[j]? = some u → (W.alloc (.cells l.toArray t)).cell? ((⟨W.heap.size, 0, none⟩ : Addr).add j) = some u := by
  intro j u hj
  rw [addr_add0, Nat.zero_add, World.cell?_alloc_at _ _ _ _ rfl]
  simpa using hj
/-- What an append leaves: the own list, longer; what it may have changed; where the list lies now. -/
structure Elt.Apd (E : Elt P α) (W : World) (B : Nat) (v : Value) (l : List α) (v' : Value) (w1 : World) : Prop where
  own : E.Own w1 B v' l
  upd : Upd (fun k => v.ownBlock = some k) W w1
  lies : ∀ k, v'.ownBlock = some k → v.ownBlock = some k ∨ W.heap.size ≤ k
theorem Elt.Apd.below {E : Elt P α} {W w1 : World} {B : Nat} {v v' : Value} {l l' : List α} (h : E.Apd W B v l v' w1) (hv : E.Own W B v l') {w : World} (hb : Below B w W) (hB : B ≤ W.heap.size) : Below B w w1 :=
  hb.trans (h.upd.below B hB fun k hk => (hv.lt k hk).1)
/-- 'run_append_own_wide', and where the answer lies. -/
theorem run_append_wide_at (w : World) (base : Nat) (t ty e : TypeId) (i : TypeInfo) (z : Value) (size bytes : Nat) (ht : P.underlying t = some (.slice e)) (hi : P.info? e = some i) (hz : i.zero = some z)
    (hsize : i.size = size) (hby : i.bytes = bytes) (hzs : z.cells.size = size) (hsz : 0 < size)
    (v : Value) (n : Nat) (xs : List Value) (hown : w.ownsRow base e size v n xs)
    (a : Addr) (m c : Nat) (news : List Value) (hl : news.length = m * size) (hnews : ∀ j u, news[j]? = some u → w.cell? (a.add j) = some u) (h1 : ∀ u ∈ news, u.oneCell' = true)
    (h63 : n + m ≤ maxLen) (hbytes : ((n + m) + (n + m) / 4 + 192) * bytes ≤ 281474976710656) (hbase : base ≤ w.heap.size) :
    ∃ v' w', (Builtin.append_ #[t, t] ty #[v, .slice (some a) m c]).run P w = .ok v' w' ∧ w'.ownsRow base e size v' (n + m) (xs ++ news) ∧ w.grownBy w' v.ownBlock ∧
      (v' = .slice none 0 0 ↔ v = .slice none 0 0 ∧ m = 0) ∧ (v'.ownBlock = v.ownBlock ∨ v'.ownBlock = some w.heap.size) := by
  obtain ⟨v', w', hr, ho, hg, hnone⟩ := run_append_own_wide (P := P) w base t ty e i z size bytes ht hi hz hsize hby hzs hsz v n xs hown a m c news hl hnews h1 h63 hbytes hbase
  refine ⟨v', w', hr, ho, hg, hnone, ?_⟩
  have hsm : n + m ≤ 9223372036854775807 := by simp only [maxLen] at h63; omega
  rcases hown.2 with ⟨rfl, h0⟩ | ⟨g, cap, cur, rfl, hbg, hgg, hnc, hcm, hcs, htake⟩
  · subst h0
    by_cases hm : m = 0
    · left
      rw [hnone.2 ⟨rfl, hm⟩]
    · right
      subst hsize hby
      have hr2 := run_append_nil (P := P) w t ty e i z ht hi hz a m c news hl hnews (by omega) (by omega) (by have hb := hbytes; simp only [Nat.zero_add] at hb; exact Nat.le_trans (Nat.mul_le_mul_right _ (by omega)) hb)
      rw [hr] at hr2
      injection hr2 with e1 e2
      subst e1
      rfl
  · by_cases hroom : n + m ≤ cap
    · left
      obtain ⟨w2, hr2, _, _⟩ := run_append_own_spare (P := P) w base t ty e i size ht hi hsize g n cap xs hown a m c news hl hnews h1 hroom
      rw [hr] at hr2
      injection hr2 with e1 e2
      subst e1
      rfl
    · right
      subst hsize hby
      have hr2 := run_append_grow (P := P) w t ty e i z ht hi hz ⟨g, 0, none⟩ n cap xs hown.1 (hown.cells (g := g) rfl) a m c news hl hnews (by omega) (by omega) (growslice_fits_wide (by omega) hbytes)
      rw [hr] at hr2
      injection hr2 with e1 e2
      subst e1
      rfl
/-- The run of an append of elements that lie somewhere. -/
theorem Elt.run_app (E : Elt P α) (W : World) (B : Nat) (ty : TypeId) (v : Value) (l m : List α) (hown : E.Own W B v l) (ad : Addr) (n c : Nat) (hn : m.length = n)
    (hnews : ∀ j u, (m.flatMap E.cs)[j]? = some u → W.cell? (ad.add j) = some u) (hlen : l.length + m.length ≤ 1800000000000) (hB : B ≤ W.heap.size) :
    ∃ ad' n' c' w1, (Builtin.append_ #[E.t, E.t] ty #[v, .slice (some ad) n c]).run P W = .ok (.slice ad' n' c') w1 ∧ E.Apd W B v (l ++ m) (.slice ad' n' c') w1 := by
  subst hn
  have hb : ((l.length + m.length) + (l.length + m.length) / 4 + 192) * E.bytes ≤ 281474976710656 := by
    have h0 : (l.length + m.length) + (l.length + m.length) / 4 + 192 ≤ 2250000000192 := by omega
    have h1 := Nat.mul_le_mul h0 E.small
    omega
  obtain ⟨v', w1, hr, h1, h2, _, h3⟩ := run_append_wide_at (P := P) W B E.t ty E.e E.i E.z E.size E.bytes E.ht E.hi E.hz E.hsize E.hby E.hzs E.pos v l.length (l.flatMap E.cs) hown ad m.length c (m.flatMap E.cs) (E.flat_len m) hnews (E.flat_one m) (by unfold maxLen; omega) hb hB
  have hown' : E.Own w1 B v' (l ++ m) := by
    unfold Elt.Own
    rw [List.length_append, List.flatMap_append]
    exact h1
  obtain ⟨ad', n', c', rfl⟩ : ∃ ad' n' c', v' = .slice ad' n' c' := by
    rcases hown'.form with ⟨h, _⟩ | ⟨g, cap, h, _⟩
    · exact ⟨_, _, _, h⟩
    · exact ⟨_, _, _, h⟩
  refine ⟨ad', n', c', w1, hr, ⟨hown', ⟨h2.os, h2.tape, h2.output, h2.size, fun k hk hn => h2.block k hk (fun e => hn e.symm)⟩, fun k hk => ?_⟩⟩
  rcases h3 with h3 | h3
  · exact .inl (h3 ▸ hk)
  · rw [h3] at hk; injection hk with hk; exact .inr (by omega)
/-- Append of elements that the statement lists ('append(x, a, b)'), in a plain region. -/
theorem Elt.wpList_app (E : Elt P α) {ops : Array Oper} {rest : List Oper} {o : Oper} {a : Act} {Q : Exit → Act → World → Prop} (hgd : o.guard = none) (s x : Operand)
    (ho : o.op = .call { callee := .builtin .append, args := #[s, x], argTypes := #[E.t, E.t] })
    (B : Nat) (v : Value) (l m : List α) (W : World) (cs : Array Value) (hs : a.eval s = v) (hown : E.Own W B v l) (g n : Nat) (hx : a.eval x = .slice (some ⟨g, 0, none⟩) n n) (hn : m.length = n) (hgW : g = W.heap.size)
    (hcs : cs.toList = m.flatMap E.cs) (hlen : l.length + m.length ≤ 1800000000000) (hB : B ≤ W.heap.size)
    (h : ∀ ad' n' c' w1, Hid (E.Apd W B v (l ++ m) (.slice ad' n' c') w1) → wpList P ops Q rest (a.put o.dst (.slice ad' n' c')) w1) : wpList P ops Q (o :: rest) a (W.alloc (.cells cs E.e)) := by
  subst hgW
  obtain ⟨ad', n', c', w1, hr, h1⟩ := E.run_app (W.alloc (.cells cs E.e)) B o.type v l m (hown.alloc _) ⟨W.heap.size, 0, none⟩ n n hn
    (fun j u hj => by have := cells_new W (m.flatMap E.cs) E.e j u hj; rw [← hcs] at this; simpa using this) hlen (by simp; omega)
  have h2 : E.Apd W B v (l ++ m) (.slice ad' n' c') w1 :=
    ⟨h1.own, ((Upd.refl (fun k => v.ownBlock = some k) W).alloc _).trans h1.upd (fun _ _ h => h) (fun _ _ h => h), fun k hk => (h1.lies k hk).imp id (fun h => by simp at h; omega)⟩
  refine wpList_plain hgd fun K hK => ?_
  unfold Oper.wp execOp
  simp only [ho, resolve, invoke, builtin, Sem.run_bind, Sem.run_pure, Result.andThen_ok, List.map_toArray, List.map_cons, List.map_nil, hs, hx, hr]
  exact hK _ _ (h ad' n' c' w1 h2)
/-- The run of an append of a list that is read. -/
theorem Elt.run_appL (E : Elt P α) (W : World) (B : Nat) (ty : TypeId) (v : Value) (l m : List α) (hown : E.Own W B v l) (ad : Option Addr) (n cap : Nat) (hn : m.length = n) (hsl : E.Rd W W.heap.size ad m) (hnil : ad = none → cap = 0)
    (hlen : l.length + m.length ≤ 1800000000000) (hB : B ≤ W.heap.size) :
    ∃ ad' n' c' w1, (Builtin.append_ #[E.t, E.t] ty #[v, .slice ad n cap]).run P W = .ok (.slice ad' n' c') w1 ∧ E.Apd W B v (l ++ m) (.slice ad' n' c') w1 := by
  cases ad with
  | none =>
    have hm : m = [] := by
      refine List.eq_nil_of_length_eq_zero ?_
      rcases Nat.eq_zero_or_pos m.length with h0 | h0
      · exact h0
      · obtain ⟨b, off, e, _⟩ := hsl h0
        cases e
    subst hm
    simp only [List.length_nil] at hn
    subst hn
    obtain rfl := hnil rfl
    obtain ⟨ad', n', c', rfl⟩ : ∃ ad' n' c', v = .slice ad' n' c' := by
      rcases hown.form with ⟨h, _⟩ | ⟨g, cap, h, _⟩
      · exact ⟨_, _, _, h⟩
      · exact ⟨_, _, _, h⟩
    refine ⟨ad', n', c', W, run_append_owned_none (P := P) W B E.t ty E.e E.i E.size E.ht E.hi _ l.length (l.flatMap E.cs) hown, ?_, Upd.refl _ _, fun k hk => .inl hk⟩
    rw [List.append_nil]
    exact hown
  | some A =>
    have hz : ∀ j u, (m.flatMap E.cs)[j]? = some u → W.cell? (A.add j) = some u := fun j u hj => by
      have hjl := (List.getElem?_eq_some_iff.1 hj).1
      rw [E.flat_len] at hjl
      have h0 : 0 < m.length := by
        rcases Nat.eq_zero_or_pos m.length with h0 | h0
        · rw [h0, Nat.zero_mul] at hjl; omega
        · exact h0
      obtain ⟨b, off, e, hb, hc⟩ := hsl h0
      injection e with e
      subst e
      have hq : j / E.size < m.length := Nat.div_lt_of_lt_mul (by rw [Nat.mul_comm]; exact hjl)
      have hr : j % E.size < E.size := Nat.mod_lt _ E.pos
      have hd : j / E.size * E.size + j % E.size = j := by rw [Nat.mul_comm]; exact Nat.div_add_mod j E.size
      rw [addr_add0, ← hd, ← Nat.add_assoc, hc _ hq _ hr, ← E.flat_at m _ _ hq hr, hd]
      exact hj
    exact E.run_app W B ty v l m hown A n cap hn hz hlen hB
/-- Append of a list that is read ('append(x, y...)'), in a plain region. -/
theorem Elt.wpList_appL (E : Elt P α) {ops : Array Oper} {rest : List Oper} {o : Oper} {a : Act} {Q : Exit → Act → World → Prop} (hgd : o.guard = none) (s x : Operand)
    (ho : o.op = .call { callee := .builtin .append, args := #[s, x], argTypes := #[E.t, E.t] })
    (B : Nat) (v : Value) (l m : List α) (W : World) (hs : a.eval s = v) (hown : E.Own W B v l) (ad : Option Addr) (n cap : Nat) (hx : a.eval x = .slice ad n cap) (hn : m.length = n) (hsl : E.Rd W W.heap.size ad m)
    (hnil : ad = none → cap = 0) (hlen : l.length + m.length ≤ 1800000000000) (hB : B ≤ W.heap.size)
    (h : ∀ ad' n' c' w1, Hid (E.Apd W B v (l ++ m) (.slice ad' n' c') w1) → wpList P ops Q rest (a.put o.dst (.slice ad' n' c')) w1) : wpList P ops Q (o :: rest) a W := by
  obtain ⟨ad', n', c', w1, hr, h1⟩ := E.run_appL W B o.type v l m hown ad n cap hn hsl hnil hlen hB
  refine wpList_plain hgd fun K hK => ?_
  unfold Oper.wp execOp
  simp only [ho, resolve, invoke, builtin, Sem.run_bind, Sem.run_pure, Result.andThen_ok, List.map_toArray, List.map_cons, List.map_nil, hs, hx, hr]
  exact hK _ _ (h ad' n' c' w1 h1)
/-- The same at a step of a region that draws its order. -/
theorem Elt.step_appL (E : Elt P α) {ops : Array Oper} {o : Oper} {a : Act} {K : Act → World → Prop} {Q : Exit → Act → World → Prop} {X : Prop} (hgd : o.guard = none) (s x : Operand)
    (ho : o.op = .call { callee := .builtin .append, args := #[s, x], argTypes := #[E.t, E.t] })
    (B : Nat) (v : Value) (l m : List α) (W : World) (hs : a.eval s = v) (hown : E.Own W B v l) (ad : Option Addr) (n cap : Nat) (hx : a.eval x = .slice ad n cap) (hn : m.length = n) (hsl : E.Rd W W.heap.size ad m)
    (hnil : ad = none → cap = 0) (hlen : l.length + m.length ≤ 1800000000000) (hB : B ≤ W.heap.size)
    (h : ∀ ad' n' c' w1, Hid (E.Apd W B v (l ++ m) (.slice ad' n' c') w1) → K (a.put o.dst (.slice ad' n' c')) w1) :
    if Region.wanted o (yielded ops a.tmps) = true then Oper.wp P o a W K Q else X := by
  have hw : Region.wanted o (yielded ops a.tmps) = true := by simp [Region.wanted, hgd]
  rw [if_pos hw]
  obtain ⟨ad', n', c', w1, hr, h1⟩ := E.run_appL W B o.type v l m hown ad n cap hn hsl hnil hlen hB
  unfold Oper.wp execOp
  simp only [ho, resolve, invoke, builtin, Sem.run_bind, Sem.run_pure, Result.andThen_ok, List.map_toArray, List.map_cons, List.map_nil, hs, hx, hr]
  exact h ad' n' c' w1 h1
/-- Append of one element at a step of a region that draws its order: the element lies in a block that is known whole. -/
theorem Elt.step_app (E : Elt P α) {ops : Array Oper} {o : Oper} {a : Act} {K : Act → World → Prop} {Q : Exit → Act → World → Prop} {X : Prop} (hgd : o.guard = none) (s x : Operand)
    (ho : o.op = .call { callee := .builtin .append, args := #[s, x], argTypes := #[E.t, E.t] })
    (B : Nat) (v : Value) (l m : List α) (W : World) (hs : a.eval s = v) (hown : E.Own W B v l) (g n : Nat) (hx : a.eval x = .slice (some ⟨g, 0, none⟩) n n) (hn : m.length = n) (cs : Array Value) (hg : Blk W g E.e cs)
    (hcs : cs.toList = m.flatMap E.cs) (hlen : l.length + m.length ≤ 1800000000000) (hB : B ≤ W.heap.size)
    (h : ∀ ad' n' c' w1, Hid (E.Apd W B v (l ++ m) (.slice ad' n' c') w1) → K (a.put o.dst (.slice ad' n' c')) w1) :
    if Region.wanted o (yielded ops a.tmps) = true then Oper.wp P o a W K Q else X := by
  have hw : Region.wanted o (yielded ops a.tmps) = true := by simp [Region.wanted, hgd]
  rw [if_pos hw]
  obtain ⟨ad', n', c', w1, hr, h1⟩ := E.run_app W B o.type v l m hown ⟨g, 0, none⟩ n n hn
    (fun j u hj => by rw [addr_add0, Nat.zero_add, hg.at_ j]; rw [← hcs] at hj; simpa using hj) hlen hB
  unfold Oper.wp execOp
  simp only [ho, resolve, invoke, builtin, Sem.run_bind, Sem.run_pure, Result.andThen_ok, List.map_toArray, List.map_cons, List.map_nil, hs, hx, hr]
  exact h ad' n' c' w1 h1
def splice (xs : List Value) : Nat → List Value → List Value
  | _, [] => xs
  | o, v :: r => splice (xs.set o v) (o + 1) r
theorem splice_eq : ∀ (vs xs : List Value) (o : Nat), o + vs.length ≤ xs.length → splice xs o vs = xs.take o ++ vs ++ xs.drop (o + vs.length)
  | [], xs, o, _ => by simp [splice]
  | v :: r, xs, o, h => by
    simp only [List.length_cons] at h
    rw [splice, splice_eq r _ (o + 1) (by rw [List.length_set]; omega), List.drop_set_of_lt (by omega), List.take_set, List.take_add_one, List.getElem?_eq_getElem (by omega)]
    have e : ((xs.take o ++ (some xs[o]).toList).set o v) = xs.take o ++ [v] := by
      have hl : (xs.take o).length = o := by rw [List.length_take]; omega
      rw [List.set_append_right _ _ (by omega), hl, Nat.sub_self]
      rfl
    rw [e, List.length_cons, show o + 1 + r.length = o + (r.length + 1) by omega]
    simp
theorem Elt.flat_set (E : Elt P α) (l : List α) (i : Nat) (x : α) (hi : i < l.length) : splice (l.flatMap E.cs) (i * E.size) (E.cs x) = (l.set i x).flatMap E.cs := by
  have hle : (i + 1) * E.size ≤ l.length * E.size := Nat.mul_le_mul_right _ hi
  have he : i * E.size + E.size = (i + 1) * E.size := by rw [Nat.add_mul, Nat.one_mul]
  rw [splice_eq _ _ _ (by rw [E.len, E.flat_len]; omega), E.len, he, E.flat_take, E.flat_drop, List.set_eq_take_append_cons_drop, if_pos hi, List.flatMap_append, List.flatMap_cons, List.append_assoc]
theorem stores_own {base : Nat} {e : TypeId} {size g n cap : Nat} : ∀ (vs xs : List Value) (o : Nat) (w : World), w.ownsRow base e size (.slice (some ⟨g, 0, none⟩) n cap) n xs → (w.setCells g o vs).ownsRow base e size (.slice (some ⟨g, 0, none⟩) n cap) n (splice xs o vs)
  | [], _, _, _, h => h
  | v :: r, xs, o, _, h => stores_own r (xs.set o v) (o + 1) _ (h.stored o v).1
/-- A store of a whole element into an own list. -/
theorem Elt.Own.stored {E : Elt P α} {w : World} {B g n cap : Nat} {l : List α} (h : E.Own w B (.slice (some ⟨g, 0, none⟩) n cap) l) (i : Nat) (hi : i < l.length) (x : α) : E.Own (w.setCells g (i * E.size) (E.cs x)) B (.slice (some ⟨g, 0, none⟩) n cap) (l.set i x) := by
  have hn := h.len_eq.1
  unfold Elt.Own at *
  rw [List.length_set, ← E.flat_set l i x hi]
  rw [hn] at h ⊢
  exact stores_own _ _ _ _ h
/-- The first elements of an own list, as an own list. -/
theorem Elt.Own.shrink {E : Elt P α} {w : World} {B n cap : Nat} {ad : Option Addr} {l : List α} (h : E.Own w B (.slice ad n cap) l) (m : Nat) (hm : m ≤ n) (h0 : ad ≠ none) : E.Own w B (.slice ad m cap) (l.take m) := by
  have hn := h.len_eq
  rcases h.2 with ⟨h1, _⟩ | ⟨g, cap', cur, hv, hb, hg, hc, hx, hsz, htk⟩
  · simp only [Value.slice.injEq] at h1
    exact absurd h1.1 h0
  · simp only [Value.slice.injEq] at hv
    obtain ⟨rfl, rfl, rfl⟩ := hv
    have hl : (l.take m).length = m := by rw [List.length_take]; omega
    refine ⟨by rw [E.flat_len], .inr ⟨g, cap, cur, by rw [hl], hb, hg, by omega, hx, hsz, ?_⟩⟩
    rw [hl, ← E.flat_take, ← htk, List.take_take, Nat.min_eq_left (Nat.mul_le_mul_right _ (by omega))]
theorem Elt.elem_eq (E : Elt P α) : P.elem E.t = E.e := by simp [Program.elem, E.ht]
theorem Elt.run_size (E : Elt P α) (W : World) : (sizeOf (P.elem E.t)).run P W = .ok E.size W := by
  rw [E.elem_eq]
  simp [sizeOf, typeInfo, E.hi, E.hsize]
theorem Elt.ht' (E : Elt P α) : P.underlying E.t = some (.slice (P.elem E.t)) := by rw [E.elem_eq]; exact E.ht
theorem map_add0 (ad : Option Addr) : ad.map (fun x => x.add 0) = ad := by
  cases ad with
  | none => rfl
  | some a => simp [Addr.add]
theorem Elt.slice_to (E : Elt P α) (ad : Option Addr) (n cap m : Nat) (x : Int) (hx : x = (m : Int)) (hm : m ≤ cap) (W : World) :
    (Instr.slice E.t (.slice ad n cap) none (some (.int .i64 x)) none).run P W = .ok (.slice ad m cap) W := by
  subst hx
  rw [run_slice_h W E.t ad n cap E.ht' .i64 (m : Int) (by omega) (by omega), E.run_size]
  simp [sliced, Result.andThen, map_add0]
theorem Elt.slice_from (E : Elt P α) (ad : Option Addr) (n cap l : Nat) (x : Int) (hx : x = (l : Int)) (hl : l ≤ n) (W : World) :
    (Instr.slice E.t (.slice ad n cap) (some (.int .i64 x)) none none).run P W = .ok (.slice (if cap = l then ad else ad.map (fun a => a.add (l * E.size))) (n - l) (cap - l)) W := by
  subst hx
  rw [run_slice_l W E.t ad n cap E.ht' .i64 (l : Int) (by omega) (by omega), E.run_size]
  simp [sliced, Result.andThen]
theorem Elt.slice_lh (E : Elt P α) (ad : Option Addr) (n cap l h : Nat) (x y : Int) (hx : x = (l : Int)) (hy : y = (h : Int)) (hl : l ≤ h) (hh : h ≤ cap) (W : World) :
    (Instr.slice E.t (.slice ad n cap) (some (.int .i64 x)) (some (.int .i64 y)) none).run P W = .ok (.slice (if cap = l then ad else ad.map (fun a => a.add (l * E.size))) (h - l) (cap - l)) W := by
  subst hx hy
  rw [run_slice_lh W E.t ad n cap E.ht' .i64 .i64 (l : Int) (h : Int) (by omega) (by omega) (by omega), E.run_size]
  simp [sliced, Result.andThen]
theorem Elt.slice_lhm (E : Elt P α) (ad : Option Addr) (n cap l h m : Nat) (x y z : Int) (hx : x = (l : Int)) (hy : y = (h : Int)) (hz : z = (m : Int)) (hl : l ≤ h) (hh : h ≤ m) (hm : m ≤ cap) (W : World) :
    (Instr.slice E.t (.slice ad n cap) (some (.int .i64 x)) (some (.int .i64 y)) (some (.int .i64 z))).run P W = .ok (.slice (if m = l then ad else ad.map (fun a => a.add (l * E.size))) (h - l) (m - l)) W := by
  subst hx hy hz
  rw [run_slice_lhm W E.t ad n cap E.ht' .i64 .i64 .i64 (l : Int) (h : Int) (m : Int) (by omega) (by omega) (by omega) (by omega), E.run_size]
  simp [sliced, Result.andThen]
theorem Elt.run_clear (E : Elt P α) (hone : ∀ u ∈ E.z.cells, u.oneCell' = true) (ty : TypeId) (W : World) (b o c : Nat) (hc : ∀ j, j < E.size → (W.cell? ⟨b, o + j, none⟩).isSome = true) (hf : ∀ j, j < E.size → W.frozen? ⟨b, o + j, none⟩ = false) :
    (Builtin.clear_ #[E.t] ty #[.slice (some ⟨b, o, none⟩) 1 c]).run P W = .ok (.tuple #[]) (W.setCells b o E.z.cells.toList) := by
  have hz : (zeroValue E.e).run P W = .ok E.z W := by simp [zeroValue, typeInfo, E.hi, E.hz]
  have hs : E.z.cells.size = E.size := E.hzs
  have hzc : (Builtin.zeroCells E.z.cells 1).toList = E.z.cells.toList := by
    refine List.ext_getElem (by simp [Builtin.zeroCells]) fun i h1 h2 => ?_
    have h3 : i < E.z.cells.size := by simpa using h2
    simp only [Builtin.zeroCells]
    simp [Nat.mod_eq_of_lt h3, h3]
  have hst := run_storeCells_cells (P := P) b o E.z.cells.toList 0 W (by simpa [hs] using hc) (by simpa [hs] using hf) (fun v hv => hone v (by simpa using hv))
  simp only [Nat.add_zero] at hst
  simp [Builtin.clear_, run_underlying E.ht, hz, hzc, hst]
end Go.Proofs.Ytlnhpeghgabnkaa
