/-
  A row of bytes of the call's own: grown by append, read back as a text. No statement of the seat is proved here.
-/
import Derived.Test.YtfgkgehlokabgaaDoorProg
import Derived.WalkKit
import Derived.Below
import Derived.Lib.Hide
import Derived.IntWalk
import Derived.KernelRfl
import Derived.OwnWalk
import Derived.Maps.AppendAt
import Derived.Laws.IdiomStrings
namespace Go.Proofs.YtfgkgehlokabgaaDoor
open Go.RowKit

theorem hide {p : Prop} (h : p) : Hid p := h
theorem unhide {p : Prop} (h : Hid p) : p := h
/-- A byte as a cell. -/
def enc8 (c : UInt8) : Value := .int .u8 (c.toNat : Int)
theorem u8_info : (Tryd.prog.info? 5).map (fun i => (i.zero, i.size, i.bytes)) = some (some (.int .u8 0), 1, 1) := by kernel_rfl
/-- The value v is a slice of the call's own (from block B on) that holds the bytes l. -/
def Own8 (w : World) (B : Nat) (v : Value) (l : List UInt8) : Prop := w.ownsRow B 5 1 v l.length (l.map enc8)
theorem Own8.nil (w : World) (B : Nat) : Own8 w B (.slice none 0 0) [] := World.ownsRow_nil _ _ _ _
theorem Own8.alloc {w : World} {B : Nat} {v : Value} {l : List UInt8} (h : Own8 w B v l) (o : Obj) : Own8 (w.alloc o) B v l := World.ownsRow.alloc h o
theorem Own8.mono {w : World} {B B' : Nat} {v : Value} {l : List UInt8} (h : Own8 w B v l) (hB : B' ≤ B) : Own8 w B' v l := by
  refine ⟨h.1, ?_⟩
  rcases h.2 with ⟨rfl, h0⟩ | ⟨g, cap, cur, rfl, hb, hr⟩
  · exact .inl ⟨rfl, h0⟩
  · exact .inr ⟨g, cap, cur, rfl, Nat.le_trans hB hb, hr⟩
/-- Block g is just these cells. -/
def Blk (w : World) (g : Nat) (t : TypeId) (cs : Array Value) : Prop := w.heap[g]? = some (.cells cs t (0, 0))
theorem Blk.lt {w : World} {g : Nat} {t : TypeId} {cs : Array Value} (h : Blk w g t cs) : g < w.heap.size := by
  rcases Nat.lt_or_ge g w.heap.size with h' | h'
  · exact h'
  · unfold Blk at h; rw [Array.getElem?_eq_none h'] at h; cases h
theorem Blk.at_ {w : World} {g : Nat} {t : TypeId} {cs : Array Value} (h : Blk w g t cs) (j : Nat) : w.cell? ⟨g, j, none⟩ = cs[j]? := cell_of_row w g j cs t (0, 0) h
theorem Blk.new (w : World) (cs : Array Value) (t : TypeId) : Blk (w.alloc (.cells cs t)) w.heap.size t cs := heap_alloc_new w _
theorem Blk.alloc {w : World} {g : Nat} {t : TypeId} {cs : Array Value} (h : Blk w g t cs) (o : Obj) : Blk (w.alloc o) g t cs := (Below.heap_alloc w o g h.lt).trans h
theorem Blk.below {w w' : World} {g B : Nat} {t : TypeId} {cs : Array Value} (h : Blk w g t cs) (hb : Below B w w') (hB : g < B) : Blk w' g t cs := (hb.block g hB).trans h
/-- What an append to a row of bytes leaves: all below B, and every block of another element type. -/
structure Grow8 (B : Nat) (W w1 : World) : Prop where
  below : ∀ w : World, Below B w W → Below B w w1
  blk : ∀ g t cs, t ≠ 5 → Blk W g t cs → Blk w1 g t cs
  size : W.heap.size ≤ w1.heap.size
theorem grow8_of {B : Nat} {W w1 : World} {v : Value} {l : List UInt8} {o : Obj} (h : Own8 W B v l) (hB : B ≤ W.heap.size) (hg : (W.alloc o).grownBy w1 v.ownBlock) : Grow8 B W w1 := by
  refine ⟨fun w hb => (hb.alloc hB o).grown hg (by simp; omega) (fun j hj => by have := (World.ownsRow.lt h j hj).1; omega), fun g t cs hne hb => ?_, ?_⟩
  · have h1 := hb.alloc o
    refine (hg.block g h1.lt ?_).trans h1
    rcases h.2 with ⟨rfl, _⟩ | ⟨g', cap, cur, rfl, _, hh, _⟩
    · simp [Value.ownBlock]
    · intro e
      have e' : g = g' := by simpa [Value.ownBlock] using e
      subst e'
      unfold Blk at hb
      rw [hh] at hb
      injection hb with hb
      injection hb with _ ht
      exact hne ht.symm
  · have := hg.size
    simp at this
    omega
theorem cells_new (W : World) (l : List Value) (t : TypeId) : ∀ j u, l[j]? = some u → (W.alloc (.cells l.toArray t)).cell? ((⟨W.heap.size, 0, none⟩ : Addr).add j) = some u := by
  intro j u hj
  have e : (Addr.add ⟨W.heap.size, 0, none⟩ j) = ⟨W.heap.size, j, none⟩ := by unfold Addr.add; split <;> simp_all
  rw [e, World.cell?_alloc_at _ _ _ _ rfl]
  simpa using hj
/-- Append of bytes that the statement lists: 'out = append(out, a, b)'. -/
theorem wpList_app8 {ops : Array Oper} {rest : List Oper} {o : Oper} {a : Act} {Q : Exit → Act → World → Prop} (hgd : o.guard = none) (s x : Operand)
    (ho : o.op = .call { callee := .builtin .append, args := #[s, x], argTypes := #[45, 45] })
    (B : Nat) (v : Value) (l m : List UInt8) (W : World) (cs : Array Value) (hs : a.eval s = v) (hown : Own8 W B v l) (g : Nat) (hx : a.eval x = .slice (some ⟨g, 0, none⟩) m.length m.length) (hgW : g = W.heap.size)
    (hcs : cs = (m.map enc8).toArray) (hlen : l.length + m.length ≤ 140737488355328) (hB : B ≤ W.heap.size)
    (h : ∀ v' w1, Hid (Own8 w1 B v' (l ++ m)) → Hid (Grow8 B W w1) → wpList Tryd.prog ops Q rest (a.put o.dst v') w1) : wpList Tryd.prog ops Q (o :: rest) a (W.alloc (.cells cs 5)) := by
  obtain ⟨i0, hi, hz0, hz1, hz2⟩ := info_parts u8_info
  subst hcs hgW
  refine wpList_append_own _ hgd s x 45 ho B 5 i0 (.int .u8 0) 1 1 Tryd.underlying45 hi hz0 hz1 hz2 rfl (by decide) v l.length (l.map enc8) hs (World.ownsRow.alloc hown _) ⟨W.heap.size, 0, none⟩ m.length m.length (m.map enc8) hx (by simp)
    (cells_new W _ _) (fun u hu => by obtain ⟨c, _, rfl⟩ := List.mem_map.1 hu; rfl) (by unfold maxLen; omega) (by omega) (by simp; omega) ?_
  intro v' w1 h1 h2 _
  refine h v' w1 (Lib.hid ?_) (Lib.hid (grow8_of hown hB h2))
  unfold Own8
  rw [List.length_append, List.map_append]
  exact h1
/-- A slice of the call's own that holds these bytes, as a text. -/
theorem Own8.conv {w : World} {B : Nat} {v : Value} {l : List UInt8} (h : Own8 w B v l) : (convert 45 9 v).run Tryd.prog w = .ok (.string ⟨l.toArray⟩) w := by
  rcases h.2 with ⟨rfl, h0⟩ | ⟨g, cap, cur, rfl, _, hh, hn, hc, hsz, htk⟩
  · have : l = [] := List.eq_nil_of_length_eq_zero h0
    subst this
    rw [run_convert_bytes_string w 45 9 5 none 0 0 Tryd.underlying45 Tryd.underlying5 Tryd.underlying9]
    rfl
  · exact run_convert_bytes_back (P := Tryd.prog) w 45 9 5 ⟨g, 0, none⟩ cap l Tryd.underlying45 Tryd.underlying5 Tryd.underlying9 (fun j hj => by
      have e : (Addr.add ⟨g, 0, none⟩ j) = ⟨g, j, none⟩ := by unfold Addr.add; split <;> simp_all
      rw [e, cell_of_row w g j cur 5 (0, 0) hh]
      have h1 : (cur.toList.take (l.length * 1))[j]? = (l.map enc8)[j]? := by rw [htk]
      rw [List.getElem?_take, if_pos (by omega), List.getElem?_map, List.getElem?_eq_getElem hj] at h1
      simpa [enc8] using h1)
end Go.Proofs.YtfgkgehlokabgaaDoor
