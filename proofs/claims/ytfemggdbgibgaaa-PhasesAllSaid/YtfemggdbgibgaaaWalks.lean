/-
  Walks over layer 22.
-/
import Derived.Test.YtfemggdbgibgaaaRows
import Derived.WalkKit
import Derived.WalkSpells
import Derived.WalkLawsBesides
import Derived.BigQuiet
import Derived.BigRegion
import Derived.Below
import Derived.Lib.Hide
import Derived.IntWalk
import Derived.KernelRfl
namespace Go.Proofs.Ytfemggdbgibgaaa
open Go.RowKit

theorem results_cell1 {fn : Func} {p : Tmp} {ty : TypeId} (h : fn.results = #[.cell p ty]) (tmps : Array Value) (P : Program) (w : World) :
    (results fn tmps).run P w = ((asAddr (tmps.getD p undef)).run P w).andThen fun a w₁ => (loadVar ty a).run P w₁ := by
  simp only [results, h]
  simp [Sem.run_bind, Result.andThen]
theorem results_cell_tmp' {fn : Func} {p u : Tmp} {ty : TypeId} (h : fn.results = #[.cell p ty, .tmp u]) (tmps : Array Value) (P : Program) (w : World) :
    (results fn tmps).run P w =
      ((asAddr (tmps.getD p undef)).run P w).andThen fun a w₁ => ((loadVar ty a).run P w₁).andThen fun v w₂ => .ok (.tuple #[v, tmps.getD u undef]) w₂ := by
  simp only [results, h]
  simp [Sem.run_bind, Result.andThen]
theorem Below.alloc_on {B : Nat} {w w' : World} (h : Below B w w') (hB : B = w.heap.size) (o : Obj) : Below B w (w'.alloc o) := h.alloc (by rw [hB]; exact h.size) o
/-- A move, as a value. -/
abbrev mv (t : Bool) (p a post send : Int) (att tim : Bool) (smp : Int) : Value := .agg #[.bool t, .int .i64 p, .int .i64 a, .int .i64 post, .int .i64 send, .bool att, .bool tim, .int .i64 smp]

set_option maxHeartbeats 400000 in
theorem to_any (p a s : Int) (w : World) :
    Calls Try.prog 24 #[.int .i64 p, .int .i64 a, .int .i64 s] w fun e w' => e = .returned (mv true p a 0 0 false false s) ∧ Below w.heap.size w w' := by
  go_enter Try.func24, Try.ntmps24
  go_wp2
  refine bodyPost_ret (v := mv true p a 0 0 false false s) (by rw [results_cell1 rfl]; go_simp) rfl ⟨rfl, (Below.refl _ _).alloc (Nat.le_refl _) _⟩

/-- Block b holds these cells, free to be written. -/
structure Row (w : World) (b : Nat) (row : Array Value) (ty : TypeId) : Prop where
  blk : w.heap[b]? = some (.cells row ty)
theorem Row.cell {w : World} {b : Nat} {row : Array Value} {ty : TypeId} (h : Row w b row ty) (j : Nat) : w.cell? ⟨b, j, none⟩ = row[j]? := by
  unfold World.cell?
  rw [h.blk]
  rfl
theorem Row.free {w : World} {b : Nat} {row : Array Value} {ty : TypeId} (h : Row w b row ty) (j : Nat) : w.frozen? ⟨b, j, none⟩ = false := by
  unfold World.frozen?
  rw [h.blk]
  simp
theorem Row.lt {w : World} {b : Nat} {row : Array Value} {ty : TypeId} (h : Row w b row ty) : b < w.heap.size := by
  by_cases hlt : b < w.heap.size
  · exact hlt
  · have := h.blk
    rw [Array.getElem?_eq_none (by omega)] at this
    cases this
theorem Row.new (w : World) (row : Array Value) (ty : TypeId) : Row (w.alloc (.cells row ty)) w.heap.size row ty := ⟨by show (w.heap.push _)[w.heap.size]? = _; simp⟩
theorem Row.below {B : Nat} {w w' : World} {b : Nat} {row : Array Value} {ty : TypeId} (h : Row w b row ty) (hb : Below B w w') (hlt : b < B) : Row w' b row ty := ⟨by rw [hb.block b hlt]; exact h.blk⟩
theorem Row.alloc {w : World} {b : Nat} {row : Array Value} {ty : TypeId} (h : Row w b row ty) (o : Obj) : Row (w.alloc o) b row ty := ⟨by
  show (w.heap.push o)[b]? = _
  rw [Array.getElem?_push_lt h.lt, ← Array.getElem?_eq_getElem h.lt]
  exact h.blk⟩
theorem size_alloc (w : World) (o : Obj) : (w.alloc o).heap.size = w.heap.size + 1 := by show (w.heap.push o).size = _; simp
abbrev mrow (t : Bool) (p a post send : Int) (att tim : Bool) (smp : Int) : Array Value := #[.bool t, .int .i64 p, .int .i64 a, .int .i64 post, .int .i64 send, .bool att, .bool tim, .int .i64 smp]
theorem mcells {w : World} {b : Nat} {ty : TypeId} {t : Bool} {p a post send : Int} {att tim : Bool} {smp : Int} (h : Row w b (mrow t p a post send att tim smp) ty) :
    b < w.heap.size ∧ w.cell? ⟨b, 0, none⟩ = some (.bool t) ∧ w.cell? ⟨b, 1, none⟩ = some (.int .i64 p) ∧ w.cell? ⟨b, 2, none⟩ = some (.int .i64 a) ∧ w.cell? ⟨b, 3, none⟩ = some (.int .i64 post) ∧ w.cell? ⟨b, 4, none⟩ = some (.int .i64 send) ∧
      w.cell? ⟨b, 5, none⟩ = some (.bool att) ∧ w.cell? ⟨b, 6, none⟩ = some (.bool tim) ∧ w.cell? ⟨b, 7, none⟩ = some (.int .i64 smp) ∧ (∀ j, w.frozen? ⟨b, j, none⟩ = false) :=
  ⟨h.lt, h.cell 0, h.cell 1, h.cell 2, h.cell 3, h.cell 4, h.cell 5, h.cell 6, h.cell 7, h.free⟩

set_option maxHeartbeats 400000 in
theorem sending_any (p a s : Int) (w : World) :
    Calls Try.prog 23 #[.int .i64 p, .int .i64 a, .int .i64 s] w fun e w' => e = .returned (mv true p a 0 a false true s) ∧ Below w.heap.size w w' := by
  go_enter Try.func23, Try.ntmps23
  go_wp2_with fail
  refine (to_any _ _ _ _).mono ?_
  rintro e w1 ⟨rfl, hb⟩
  obtain ⟨hlt, c0, c1, c2, c3, c4, c5, c6, c7, hf⟩ := mcells ((Row.new w (mrow false 0 0 0 0 false false 0) 27).below hb (by rw [size_alloc]; omega))
  have HB := Lib.hid (((Below.refl w.heap.size w).alloc (Nat.le_refl _) _).trans (hb.mono (by rw [size_alloc]; omega)))
  clear hb
  go_wp2
  refine bodyPost_ret (v := mv true p a 0 a false true s) (by rw [results_cell1 rfl]; go_simp) rfl ⟨rfl, ?_⟩
  repeat (first | with_reducible exact HB.out | (with_reducible refine Below.setCell ?_ (by first | exact Nat.le_refl _ | omega) _) | (with_reducible refine Below.alloc_on ?_ rfl _))

set_option maxHeartbeats 400000 in
theorem ending_any (p q : Int) (w : World) :
    Calls Try.prog 27 #[.int .i64 p, .int .i64 q] w fun e w' => e = .returned (mv true p 0 q 0 false false 2) ∧ Below w.heap.size w w' := by
  go_enter Try.func27, Try.ntmps27
  go_wp2_with fail
  refine (to_any _ _ _ _).mono ?_
  rintro e w1 ⟨rfl, hb⟩
  obtain ⟨hlt, c0, c1, c2, c3, c4, c5, c6, c7, hf⟩ := mcells ((Row.new w (mrow false 0 0 0 0 false false 0) 27).below hb (by rw [size_alloc]; omega))
  have HB := Lib.hid (((Below.refl w.heap.size w).alloc (Nat.le_refl _) _).trans (hb.mono (by rw [size_alloc]; omega)))
  clear hb
  go_wp2
  refine bodyPost_ret (v := mv true p 0 q 0 false false 2) (by rw [results_cell1 rfl]; go_simp) rfl ⟨rfl, ?_⟩
  repeat (first | with_reducible exact HB.out | (with_reducible refine Below.setCell ?_ (by first | exact Nat.le_refl _ | omega) _) | (with_reducible refine Below.alloc_on ?_ rfl _))

/-- What a rail's last word does: the move, as a value, and whether it is one. -/
def saidV (e : Int) : Value := if e = 4 then mv true 3 0 1 0 false false 2 else if e = 5 ∨ e = 6 then mv true 4 0 2 0 false false 2 else mv false 0 0 0 0 false false 0
set_option maxHeartbeats 400000 in
theorem said_4 (w : World) :
    Calls Try.prog 22 #[.int .i64 4] w fun e w' => e = .returned (.tuple #[mv true 3 0 1 0 false false 2, .bool true]) ∧ Below w.heap.size w w' := by
  go_enter Try.func22, Try.ntmps22
  go_wp2_with fail
  refine (ending_any _ _ _).mono ?_
  rintro e w1 ⟨rfl, hb⟩
  obtain ⟨hlt, c0, c1, c2, c3, c4, c5, c6, c7, hf⟩ := mcells ((Row.new w (mrow false 0 0 0 0 false false 0) 27).below hb (by rw [size_alloc]; omega))
  have HB := Lib.hid (((Below.refl w.heap.size w).alloc (Nat.le_refl _) _).trans (hb.mono (by rw [size_alloc]; omega)))
  clear hb
  go_wp2
  refine bodyPost_ret (v := .tuple #[mv true 3 0 1 0 false false 2, .bool true]) (by rw [results_cell_tmp' rfl]; go_simp) rfl ⟨rfl, ?_⟩
  repeat (first | with_reducible exact HB.out | (with_reducible refine Below.setCell ?_ (by first | exact Nat.le_refl _ | omega) _) | (with_reducible refine Below.alloc_on ?_ rfl _))
set_option maxHeartbeats 400000 in
theorem said_56 (x : Int) (hx : x = 5 ∨ x = 6) (w : World) :
    Calls Try.prog 22 #[.int .i64 x] w fun e w' => e = .returned (.tuple #[mv true 4 0 2 0 false false 2, .bool true]) ∧ Below w.heap.size w w' := by
  rcases hx with rfl | rfl
  all_goals
    go_enter Try.func22, Try.ntmps22
    go_wp2_with fail
    refine (ending_any _ _ _).mono ?_
    rintro e w1 ⟨rfl, hb⟩
    obtain ⟨hlt, c0, c1, c2, c3, c4, c5, c6, c7, hf⟩ := mcells ((Row.new w (mrow false 0 0 0 0 false false 0) 27).below hb (by rw [size_alloc]; omega))
    have HB := Lib.hid (((Below.refl w.heap.size w).alloc (Nat.le_refl _) _).trans (hb.mono (by rw [size_alloc]; omega)))
    clear hb
    go_wp2
    refine bodyPost_ret (v := .tuple #[mv true 4 0 2 0 false false 2, .bool true]) (by rw [results_cell_tmp' rfl]; go_simp) rfl ⟨rfl, ?_⟩
    repeat (first | with_reducible exact HB.out | (with_reducible refine Below.setCell ?_ (by first | exact Nat.le_refl _ | omega) _) | (with_reducible refine Below.alloc_on ?_ rfl _))
theorem beq_no {a b : Int} (h : a ≠ b) : (a == b) = false := beq_eq_false_iff_ne.2 h
theorem beq_yes {a b : Int} (h : a = b) : (a == b) = true := beq_iff_eq.2 h
set_option maxHeartbeats 400000 in
theorem said_no (x : Int) (h4 : x ≠ 4) (h5 : x ≠ 5) (h6 : x ≠ 6) (w : World) :
    Calls Try.prog 22 #[.int .i64 x] w fun e w' => e = .returned (.tuple #[mv false 0 0 0 0 false false 0, .bool false]) ∧ Below w.heap.size w w' := by
  have e4 := beq_no h4
  have e5 := beq_no h5
  have e6 := beq_no h6
  clear h4 h5 h6
  go_enter Try.func22, Try.ntmps22
  go_wp2
  refine bodyPost_ret (v := .tuple #[mv false 0 0 0 0 false false 0, .bool false]) (by rw [results_cell_tmp' rfl]; go_simp) rfl ⟨rfl, ?_⟩
  repeat (first | with_reducible exact (Below.refl _ _) | (with_reducible refine Below.setCell ?_ (by first | exact Nat.le_refl _ | omega) _) | (with_reducible refine Below.alloc_on ?_ rfl _))

def openB (p : Int) : Bool := p == 1 || p == 2
set_option maxHeartbeats 400000 in
theorem open_any (p : Int) (w : World) :
    Calls Try.prog 14 #[.int .i64 p] w fun e w' => e = .returned (.bool (openB p)) ∧ w = w' := by
  by_cases h1 : p = 1
  · subst h1
    go_enter Try.func14, Try.ntmps14
    go_wp2
    go_ret
    exact ⟨rfl, rfl⟩
  · have e1 := beq_no h1
    have HO := Lib.hid (show openB p = (p == 2) by unfold openB; rw [e1]; rfl)
    clear h1
    go_enter Try.func14, Try.ntmps14
    go_wp2
    go_ret
    exact ⟨by rw [HO.out]; rfl, rfl⟩
set_option maxHeartbeats 400000 in
theorem openr_any (p : Int) (w : World) :
    Calls Try.prog 15 #[.int .i64 p] w fun e w' => e = .returned (.bool (openB p)) ∧ w = w' := by
  by_cases h1 : p = 1
  · subst h1
    go_enter Try.func15, Try.ntmps15
    go_wp2
    go_ret
    exact ⟨rfl, rfl⟩
  · have e1 := beq_no h1
    have HO := Lib.hid (show openB p = (p == 2) by unfold openB; rw [e1]; rfl)
    clear h1
    go_enter Try.func15, Try.ntmps15
    go_wp2
    go_ret
    exact ⟨by rw [HO.out]; rfl, rfl⟩
abbrev grow : Array Value := #[.int .i64 1, .int .i64 1, .int .i64 2, .int .i64 0, .int .i64 2, .int .i64 2, .int .i64 2, .int .i64 3, .int .i64 3, .int .i64 0, .int .i64 4, .int .i64 0]
set_option maxHeartbeats 400000 in
theorem good_any (w : World) :
    Calls Try.prog 25 #[] w fun e w' => e = .returned (.slice (some ⟨w.heap.size, 0, none⟩) 6 6) ∧ Below w.heap.size w w' ∧ Row w' w.heap.size grow 42 := by
  go_enter Try.func25, Try.ntmps25
  go_wp2
  go_ret
  exact ⟨rfl, (Below.refl _ _).alloc (Nat.le_refl _) _, Row.new _ _ _⟩
end Go.Proofs.Ytfemggdbgibgaaa
