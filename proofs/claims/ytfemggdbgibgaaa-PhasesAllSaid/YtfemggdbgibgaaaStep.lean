/-
  Walks over layer 22: the table.
-/
import Derived.Test.YtfemggdbgibgaaaGood
namespace Go.Proofs.Ytfemggdbgibgaaa
open Go.RowKit

theorem Row.on {w w' : World} {b : Nat} {row : Array Value} {ty : TypeId} (h : Row w b row ty) (hb : Below w.heap.size w w') : Row w' b row ty := h.below hb h.lt
abbrev prow (p a : Int) : Array Value := #[.int .i64 p, .int .i64 a]
/-- What Step has made ahead of its tests. -/
structure Made (w w' : World) (p a : Int) : Prop where
  res : Row w' w.heap.size (mrow false 0 0 0 0 false false 0) 27
  plc : Row w' (w.heap.size + 1) (prow p a) 42
  non : Row w' (w.heap.size + 1 + 1) (mrow false p a 0 0 false false (-1)) 27
  bel : Below w.heap.size w w'
theorem Made.start (w : World) (p a : Int) : Made w (((w.alloc (.cells (mrow false 0 0 0 0 false false 0) 27)).alloc (.cells (prow p a) 42)).alloc (.cells (mrow false p a 0 0 false false (-1)) 27)) p a := by
  refine ⟨((Row.new w _ _).alloc _).alloc _, ?_, ?_, ?_⟩
  · have := (Row.new (w.alloc (.cells (mrow false 0 0 0 0 false false 0) 27)) (prow p a) 42).alloc (.cells (mrow false p a 0 0 false false (-1)) 27)
    rw [size_alloc] at this
    exact this
  · have := Row.new ((w.alloc (.cells (mrow false 0 0 0 0 false false 0) 27)).alloc (.cells (prow p a) 42)) (mrow false p a 0 0 false false (-1)) 27
    rw [size_alloc, size_alloc] at this
    exact this
  · exact ((Below.alloc_on (Below.alloc_on (Below.alloc_on (Below.refl _ w) rfl _) rfl _) rfl _))
theorem Made.on {w w1 w2 : World} {p a : Int} (h : Made w w1 p a) (hb : Below w1.heap.size w1 w2) : Made w w2 p a :=
  ⟨h.res.on hb, h.plc.on hb, h.non.on hb, h.bel.trans (hb.mono h.bel.size)⟩
theorem Made.alloc {w w1 : World} {p a : Int} (h : Made w w1 p a) (o : Obj) : Made w (w1.alloc o) p a := ⟨h.res.alloc o, h.plc.alloc o, h.non.alloc o, Below.alloc_on h.bel rfl o⟩
theorem Made.facts {w w1 : World} {p a : Int} (h : Made w w1 p a) :
    (w.heap.size < w1.heap.size ∧ w1.cell? ⟨w.heap.size, 0, none⟩ = some (.bool false) ∧ w1.cell? ⟨w.heap.size, 1, none⟩ = some (.int .i64 0) ∧ w1.cell? ⟨w.heap.size, 2, none⟩ = some (.int .i64 0) ∧ w1.cell? ⟨w.heap.size, 3, none⟩ = some (.int .i64 0) ∧ w1.cell? ⟨w.heap.size, 4, none⟩ = some (.int .i64 0) ∧
      w1.cell? ⟨w.heap.size, 5, none⟩ = some (.bool false) ∧ w1.cell? ⟨w.heap.size, 6, none⟩ = some (.bool false) ∧ w1.cell? ⟨w.heap.size, 7, none⟩ = some (.int .i64 0) ∧ (∀ j, w1.frozen? ⟨w.heap.size, j, none⟩ = false)) ∧
    (w.heap.size + 1 < w1.heap.size ∧ w1.cell? ⟨w.heap.size + 1, 0, none⟩ = some (.int .i64 p) ∧ w1.cell? ⟨w.heap.size + 1, 1, none⟩ = some (.int .i64 a)) ∧
    (w.heap.size + 1 + 1 < w1.heap.size ∧ w1.cell? ⟨w.heap.size + 1 + 1, 0, none⟩ = some (.bool false) ∧ w1.cell? ⟨w.heap.size + 1 + 1, 1, none⟩ = some (.int .i64 p) ∧ w1.cell? ⟨w.heap.size + 1 + 1, 2, none⟩ = some (.int .i64 a) ∧ w1.cell? ⟨w.heap.size + 1 + 1, 3, none⟩ = some (.int .i64 0) ∧ w1.cell? ⟨w.heap.size + 1 + 1, 4, none⟩ = some (.int .i64 0) ∧
      w1.cell? ⟨w.heap.size + 1 + 1, 5, none⟩ = some (.bool false) ∧ w1.cell? ⟨w.heap.size + 1 + 1, 6, none⟩ = some (.bool false) ∧ w1.cell? ⟨w.heap.size + 1 + 1, 7, none⟩ = some (.int .i64 (-1))) :=
  ⟨mcells h.res, ⟨h.plc.lt, h.plc.cell 0, h.plc.cell 1⟩, ⟨h.non.lt, h.non.cell 0, h.non.cell 1, h.non.cell 2, h.non.cell 3, h.non.cell 4, h.non.cell 5, h.non.cell 6, h.non.cell 7⟩⟩

end Go.Proofs.Ytfemggdbgibgaaa
