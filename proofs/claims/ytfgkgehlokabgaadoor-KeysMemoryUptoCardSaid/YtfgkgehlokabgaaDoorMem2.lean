/-
  What KeysMemory needs of memory, more: own lists as letters, what stays, numbers.
-/
import Derived.Test.YtfgkgehlokabgaaDoorMem
namespace Go.Proofs.YtfgkgehlokabgaaDoor
open Go.RowKit

theorem OwnP.new (w : World) (B : Nat) (hB : B ≤ w.heap.size) : OwnP (w.alloc (.cells #[] 39)) B (.slice (some ⟨w.heap.size, 0, none⟩) 0 0) [] :=
  ⟨rfl, .inr ⟨w.heap.size, 0, #[], rfl, hB, heap_alloc_new w _, Nat.le_refl _, by unfold maxLen; omega, rfl, rfl⟩⟩
theorem OwnP.row {w : World} {B g n cap : Nat} {l : List Ky.Part} (h : OwnP w B (.slice (some ⟨g, 0, none⟩) n cap) l) : ∃ cur, w.heap[g]? = some (.cells cur 39 (0, 0)) := by
  rcases h.2 with ⟨h0, _⟩ | ⟨g', cap', cur, h', _, hh, _⟩
  · simp at h0
  · simp only [Value.slice.injEq, Option.some.injEq, Addr.mk.injEq] at h'
    obtain ⟨⟨rfl, _⟩, _⟩ := h'
    exact ⟨cur, hh⟩
theorem OwnP.len {w : World} {B n cap : Nat} {ad : Option Addr} {l : List Ky.Part} (h : OwnP w B (.slice ad n cap) l) : l.length = n ∧ n ≤ cap := by
  rcases h.2 with ⟨h0, h1⟩ | ⟨g', cap', cur, h', _, _, hle, _⟩
  · simp only [Value.slice.injEq] at h0; omega
  · simp only [Value.slice.injEq] at h'; omega
theorem OwnP.mono {w : World} {B B' : Nat} {v : Value} {l : List Ky.Part} (h : OwnP w B v l) (hB : B' ≤ B) : OwnP w B' v l := by
  refine ⟨h.1, ?_⟩
  rcases h.2 with ⟨rfl, h0⟩ | ⟨g, cap, cur, rfl, hb, hr⟩
  · exact .inl ⟨rfl, h0⟩
  · exact .inr ⟨g, cap, cur, rfl, Nat.le_trans hB hb, hr⟩
/-- An own list, as a slice. -/
theorem OwnP.slc {w : World} {B : Nat} {v : Value} {l : List Ky.Part} (h : OwnP w B v l) : ∃ ad cap, v = .slice ad l.length cap ∧ (ad = none ∧ l.length = 0 ∧ cap = 0 ∨ ∃ g, ad = some ⟨g, 0, none⟩ ∧ B ≤ g ∧ g < w.heap.size) := by
  rcases h.2 with ⟨h0, h1⟩ | ⟨g, cap, cur, hv, hB, hh, _⟩
  · exact ⟨none, 0, by rw [h0, h1], .inl ⟨rfl, h1, rfl⟩⟩
  · exact ⟨_, cap, hv, .inr ⟨g, rfl, hB, Blk.lt (t := 39) (cs := cur) hh⟩⟩
theorem OwnP.free {w : World} {B b o n cap : Nat} {l : List Ky.Part} (h0 : o = 0) (h : OwnP w B (.slice (some ⟨b, o, none⟩) n cap) l) : ∀ j, w.frozen? ⟨b, j, none⟩ = false := fun j => by
  subst h0
  obtain ⟨cur, hc⟩ := h.row
  exact frozen_of_row w b j cur _ hc
theorem OwnP.sliceAt {w : World} {B b o n cap : Nat} {l : List Ky.Part} (h0 : o = 0) (h : OwnP w B (.slice (some ⟨b, o, none⟩) n cap) l) (m : Nat) (hm : m ≤ l.length) : SliceIs w w.heap.size (some ⟨b, o, none⟩) m (lof l) := by
  subst h0
  exact h.sliceIs m hm
theorem OwnP.setAt {w : World} {B b o n cap : Nat} {l : List Ky.Part} (h0 : o = 0) (h : OwnP w B (.slice (some ⟨b, o, none⟩) n cap) l) (i : Nat) (hi : i < l.length) (p : Ky.Part) :
    OwnP (((w.setCell ⟨b, o + i * 3, none⟩ (.bool p.num)).setCell ⟨b, o + i * 3 + 1, none⟩ (.int .i64 p.n)).setCell ⟨b, o + i * 3 + 2, none⟩ (.string ⟨p.s.toArray⟩)) B (.slice (some ⟨b, o, none⟩) n cap) (l.set i p) := by
  subst h0
  rw [Nat.zero_add]
  exact h.setP i hi p
/-- The blocks below S but one stay. -/
def Keep (S xb : Nat) (W W1 : World) : Prop := W.heap.size ≤ W1.heap.size ∧ ∀ b, b < S → b ≠ xb → W1.heap[b]? = W.heap[b]?
theorem Keep.refl (S xb : Nat) (W : World) : Keep S xb W W := ⟨Nat.le_refl _, fun _ _ _ => rfl⟩
theorem Keep.trans {S xb : Nat} {A B C : World} (h : Keep S xb A B) (k : Keep S xb B C) : Keep S xb A C := ⟨Nat.le_trans h.1 k.1, fun b h1 h2 => (k.2 b h1 h2).trans (h.2 b h1 h2)⟩
theorem Keep.set {S xb : Nat} {A B : World} (h : Keep S xb A B) (j : Nat) (u : Value) : Keep S xb A (B.setCell ⟨xb, j, none⟩ u) :=
  h.trans ⟨by simp [World.setCell], fun b _ h2 => Below.heap_setCell B _ u b h2⟩
theorem Keep.inl {S xb : Nat} {W W1 : World} {ad : Option Addr} {n : Nat} {L : Nat → PV} (h : In W ad n L) (hk : Keep S xb W W1) (hn : ∀ b off, 0 < n → ad = some ⟨b, off, none⟩ → b < S ∧ b ≠ xb) : In W1 ad n L :=
  ⟨h.at_.kept hk.1 fun b off h0 e _ => hk.2 b (hn b off h0 e).1 (hn b off h0 e).2, h.n_le, h.ok, h.key⟩
/-- Split of a key, its answer as an own list. -/
theorem split_own_at {w : World} {x : Value} (hc : w.cell? ⟨0, 0, none⟩ = some x) {l : List UInt8} {ps : List Ky.Part} (hk : Ky.IsKey l ps) (s : ByteArray) (hl : s.data.toList = l) (hs : s.size ≤ 1073741824) (n : Nat) (hn : ps.length = n) (W : World) (hb : Below w.heap.size w W) :
    Calls Tryd.prog 7 #[.string s] W fun e w' => ∃ ad cap, e = .returned (.tuple #[.slice ad n cap, .nilIface]) ∧ OwnP w' W.heap.size (.slice ad n cap) ps ∧ In w' ad n (lof ps) ∧ (ad = none ∧ n = 0 ∧ cap = 0 ∨ ∃ g, ad = some ⟨g, 0, none⟩ ∧ W.heap.size ≤ g ∧ g < w'.heap.size) ∧ Below W.heap.size W w' := by
  have hg := lt_of_cell hc
  refine (split_walk s l hl hs x w.heap.size W hb.size hg ((hb.cell (p := ⟨0, 0, none⟩) hg).trans hc)).mono ?_
  rintro e w' ⟨h1, _, h3⟩
  obtain ⟨v, rfl, ho⟩ := h1 ps hk
  obtain ⟨ad, cap, rfl, hcap, hin, hsome⟩ := own_in ho hk (by rw [← hl, size_toList]; omega) n hn
  refine ⟨ad, cap, rfl, ho, hin, ?_, h3⟩
  obtain ⟨ad', cap', e, hf⟩ := ho.slc
  simp only [Value.slice.injEq] at e
  obtain ⟨rfl, e2, rfl⟩ := e
  rw [hn] at hf
  exact hf
/-- The numbers 0, 1, 2 .. as parts. -/
def NV (i : Nat) : PV := ⟨true, (i : Int), ⟨#[]⟩⟩
def NP (i : Nat) : Ky.Part := ⟨true, (i : Int), []⟩
theorem NV_toP (i : Nat) : (NV i).toP = NP i := rfl
theorem ks_NV : ∀ n, (ks NV n).length = 9 * n
  | 0 => rfl
  | n + 1 => by
    rw [ks_succ, List.length_append, ks_NV n]
    unfold NV
    rw [form_num, List.length_cons, Ky.be_length]
    omega
theorem in_NV {w : World} {ad : Option Addr} {n : Nat} (hn : n ≤ 268435456) (h : SliceIs w w.heap.size ad n NV) : In w ad n NV :=
  ⟨h, by omega, fun i hi => ⟨by show -9223372036854775808 ≤ (i : Int); omega, by show (i : Int) ≤ 9223372036854775807; omega, by show (0 : Nat) ≤ _; omega⟩, by rw [ks_NV]; omega⟩
theorem lof_at {l : List Ky.Part} {i : Nat} {p : Ky.Part} (h : l[i]? = some p) : lof l i = ⟨p.num, p.n, ⟨p.s.toArray⟩⟩ := by
  unfold lof
  rw [h]
def markP : Ky.Part := ⟨false, 0, [109, 97, 114, 107]⟩
def grownP : Ky.Part := ⟨false, 0, [103, 114, 111, 119, 110]⟩
def MK (_ : Nat) : PV := ⟨false, 0, ⟨#[109, 97, 114, 107]⟩⟩
def slLen : Value → Nat
  | .slice _ n _ => n
  | _ => 0
end Go.Proofs.YtfgkgehlokabgaaDoor
