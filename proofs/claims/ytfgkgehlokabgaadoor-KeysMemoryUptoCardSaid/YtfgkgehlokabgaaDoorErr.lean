/-
  Walks over remitnum.list and remitnum.Num: the number of an error that a call answered, for nil and for each of the 37 sentinels.
-/
import Derived.Test.YtfgkgehlokabgaaDoorProg
import Derived.Test.YtfgkgehlokabgaaDoorSent
import Derived.WalkKit
import Derived.Below
import Derived.Lib.Hide
import Derived.KernelRfl
import Derived.Great.Walk
import Derived.Great.BuildSlice
import Derived.Deep.Cut
import Derived.WideLaws
import Derived.Deep.WholeRow
import Derived.LaidEql
import Derived.LoopTactic
import Derived.Deep.DeepFit
namespace Go.Proofs.YtfgkgehlokabgaaDoor
open Go.RowKit

theorem run_index_arr {P : Program} (w : World) (t e : TypeId) (n : Nat) (ms : Array (String × TypeId)) (inf : TypeInfo) (cs : Array Value) (k : IntKind) (i : Nat) (v : Value) (h : P.underlying t = some (.array n e))
    (he : P.underlying e = some (.interface ms)) (hi : P.info? e = some inf) (hs : inf.size = 1) (hlt : i < n) (hv : cs[i]? = some v) : (Instr.index t (.agg cs) (.int k i)).run P w = .ok v w := by
  have h1 : (0 ≤ (i : Int) ∧ (i : Int) < (n : Int)) := by omega
  simp [Instr.index, asIntOf, run_underlying h, h1, part, isAgg, run_underlying he, sizeOf, typeInfo, hi, hs, hv]
  intro hge
  omega

/-- A load of a package-level variable of interface type. -/
theorem load_glob {P : Program} {w : World} {t : TypeId} {ms : Array (String × TypeId)} (ht : P.underlying t = some (.interface ms)) (g : Nat) (v : Value) (hc : w.cell? ⟨g, 0, none⟩ = some v) (o : Oper) :
    ∀ ρ : Operand → Value, ρ (.global g) = .pointer (some ⟨g, 0, none⟩) → (execOp ρ { o with op := .load t (.global g) }).run P w = .ok (.value v) w := by
  intro ρ hρ
  simp [execOp, hρ, go_sem, isAgg, run_underlying ht, hc]

theorem gen_world {P : Program} {ops : Array Oper} {Q : Exit → Act → World → Prop} {l : List Oper} {a : Act} {w : World} {o : Obj} (h : ∀ W1, Hid (W1 = w.alloc o) → wpList P ops Q l a W1) : wpList P ops Q l a (w.alloc o) := h _ (Lib.hid rfl)
theorem cell_alloc {w : World} {a : Addr} {v : Value} (h : w.cell? a = some v) (o : Obj) : (w.alloc o).cell? a = some v := by
  rw [World.cell?_alloc_lt (h := lt_of_cell h)]
  exact h

/-- The numbers of the 37 variables, in the order of remitnum.list. -/
def errGs : List Nat := [1, 2, 3, 4, 5, 6, 0, 7, 8, 9, 10, 11, 12, 13, 14, 15, 16, 17, 18, 19, 20, 21, 22, 23, 24, 25, 26, 27, 28, 29, 30, 31, 32, 33, 34, 35, 36]
def listV (V : Nat → Value) : Array Value := #[V 0, V 1, V 2, V 3, V 4, V 5, V 6, V 7, V 8, V 9, V 10, V 11, V 12, V 13, V 14, V 15, V 16, V 17, V 18, V 19, V 20, V 21, V 22, V 23, V 24, V 25, V 26, V 27, V 28, V 29, V 30, V 31, V 32, V 33, V 34, V 35, V 36]
/-- A sentinel's value. -/
def errV (A : Nat → Addr) (i : Nat) : Value := .iface 59 (.pointer (some (A i)))
@[go_sem] theorem eqGuard_errV (op : BinOp) (t : TypeId) (x y : Operand) (A : Nat → Addr) (i : Nat) (v : Value) : eqGuard op t x y (errV A i) v = pure () := by cases op <;> rfl
theorem listV_at (V : Nat → Value) (i : Nat) (h : i < 37) : (listV V)[i]? = some (V i) := by
  have e : listV V = ((List.range 37).map V).toArray := rfl
  rw [e]
  simp [h]

set_option maxRecDepth 100000 in
set_option maxHeartbeats 1000000 in
theorem list_any (A : Nat → Addr) (w : World) (hW0 : ∀ i g, errGs[i]? = some g → w.cell? ⟨g, 0, none⟩ = some (errV A i)) :
    Calls Tryd.prog 22 #[] w fun e w' => e = .returned (.agg (listV (errV A))) ∧ Below w.heap.size w w' := by
  have hB : Below w.heap.size w w := Below.refl _ _
  go_enter Tryd.func22, Tryd.ntmps22
  go_upto_region 1 with (fail)
  refine wp_region_lit ?_
  refine gen_world ?_
  intro W1 HW1
  have hW : ∀ i g, errGs[i]? = some g → Hid (W1.cell? ⟨g, 0, none⟩ = some (errV A i)) := fun i g h => by
    have e := HW1.out
    subst e
    exact Lib.hid (cell_alloc (hW0 i g h) _)
  refine Great.wpList_loadVarTo rfl (some 1) rfl 25 1 rfl (errV A 0) (load_glob Tryd.underlying25 1 (errV A 0) (hW 0 1 rfl).out _) ?_
  refine Great.wpList_loadVarTo rfl (some 2) rfl 25 2 rfl (errV A 1) (load_glob Tryd.underlying25 2 (errV A 1) (hW 1 2 rfl).out _) ?_
  refine Great.wpList_loadVarTo rfl (some 3) rfl 25 3 rfl (errV A 2) (load_glob Tryd.underlying25 3 (errV A 2) (hW 2 3 rfl).out _) ?_
  refine Great.wpList_loadVarTo rfl (some 4) rfl 25 4 rfl (errV A 3) (load_glob Tryd.underlying25 4 (errV A 3) (hW 3 4 rfl).out _) ?_
  refine Great.wpList_loadVarTo rfl (some 5) rfl 25 5 rfl (errV A 4) (load_glob Tryd.underlying25 5 (errV A 4) (hW 4 5 rfl).out _) ?_
  refine Great.wpList_loadVarTo rfl (some 6) rfl 25 6 rfl (errV A 5) (load_glob Tryd.underlying25 6 (errV A 5) (hW 5 6 rfl).out _) ?_
  refine Great.wpList_loadVarTo rfl (some 7) rfl 25 0 rfl (errV A 6) (load_glob Tryd.underlying25 0 (errV A 6) (hW 6 0 rfl).out _) ?_
  refine Great.wpList_loadVarTo rfl (some 8) rfl 25 7 rfl (errV A 7) (load_glob Tryd.underlying25 7 (errV A 7) (hW 7 7 rfl).out _) ?_
  refine Great.wpList_loadVarTo rfl (some 9) rfl 25 8 rfl (errV A 8) (load_glob Tryd.underlying25 8 (errV A 8) (hW 8 8 rfl).out _) ?_
  refine Great.wpList_loadVarTo rfl (some 10) rfl 25 9 rfl (errV A 9) (load_glob Tryd.underlying25 9 (errV A 9) (hW 9 9 rfl).out _) ?_
  refine Great.wpList_loadVarTo rfl (some 11) rfl 25 10 rfl (errV A 10) (load_glob Tryd.underlying25 10 (errV A 10) (hW 10 10 rfl).out _) ?_
  refine Great.wpList_loadVarTo rfl (some 12) rfl 25 11 rfl (errV A 11) (load_glob Tryd.underlying25 11 (errV A 11) (hW 11 11 rfl).out _) ?_
  refine Great.wpList_loadVarTo rfl (some 13) rfl 25 12 rfl (errV A 12) (load_glob Tryd.underlying25 12 (errV A 12) (hW 12 12 rfl).out _) ?_
  refine Great.wpList_loadVarTo rfl (some 14) rfl 25 13 rfl (errV A 13) (load_glob Tryd.underlying25 13 (errV A 13) (hW 13 13 rfl).out _) ?_
  refine Great.wpList_loadVarTo rfl (some 15) rfl 25 14 rfl (errV A 14) (load_glob Tryd.underlying25 14 (errV A 14) (hW 14 14 rfl).out _) ?_
  refine Great.wpList_loadVarTo rfl (some 16) rfl 25 15 rfl (errV A 15) (load_glob Tryd.underlying25 15 (errV A 15) (hW 15 15 rfl).out _) ?_
  refine Great.wpList_loadVarTo rfl (some 17) rfl 25 16 rfl (errV A 16) (load_glob Tryd.underlying25 16 (errV A 16) (hW 16 16 rfl).out _) ?_
  refine Great.wpList_loadVarTo rfl (some 18) rfl 25 17 rfl (errV A 17) (load_glob Tryd.underlying25 17 (errV A 17) (hW 17 17 rfl).out _) ?_
  refine Great.wpList_loadVarTo rfl (some 19) rfl 25 18 rfl (errV A 18) (load_glob Tryd.underlying25 18 (errV A 18) (hW 18 18 rfl).out _) ?_
  refine Great.wpList_loadVarTo rfl (some 20) rfl 25 19 rfl (errV A 19) (load_glob Tryd.underlying25 19 (errV A 19) (hW 19 19 rfl).out _) ?_
  refine Great.wpList_loadVarTo rfl (some 21) rfl 25 20 rfl (errV A 20) (load_glob Tryd.underlying25 20 (errV A 20) (hW 20 20 rfl).out _) ?_
  refine Great.wpList_loadVarTo rfl (some 22) rfl 25 21 rfl (errV A 21) (load_glob Tryd.underlying25 21 (errV A 21) (hW 21 21 rfl).out _) ?_
  refine Great.wpList_loadVarTo rfl (some 23) rfl 25 22 rfl (errV A 22) (load_glob Tryd.underlying25 22 (errV A 22) (hW 22 22 rfl).out _) ?_
  refine Great.wpList_loadVarTo rfl (some 24) rfl 25 23 rfl (errV A 23) (load_glob Tryd.underlying25 23 (errV A 23) (hW 23 23 rfl).out _) ?_
  refine Great.wpList_loadVarTo rfl (some 25) rfl 25 24 rfl (errV A 24) (load_glob Tryd.underlying25 24 (errV A 24) (hW 24 24 rfl).out _) ?_
  refine Great.wpList_loadVarTo rfl (some 26) rfl 25 25 rfl (errV A 25) (load_glob Tryd.underlying25 25 (errV A 25) (hW 25 25 rfl).out _) ?_
  refine Great.wpList_loadVarTo rfl (some 27) rfl 25 26 rfl (errV A 26) (load_glob Tryd.underlying25 26 (errV A 26) (hW 26 26 rfl).out _) ?_
  refine Great.wpList_loadVarTo rfl (some 28) rfl 25 27 rfl (errV A 27) (load_glob Tryd.underlying25 27 (errV A 27) (hW 27 27 rfl).out _) ?_
  refine Great.wpList_loadVarTo rfl (some 29) rfl 25 28 rfl (errV A 28) (load_glob Tryd.underlying25 28 (errV A 28) (hW 28 28 rfl).out _) ?_
  refine Great.wpList_loadVarTo rfl (some 30) rfl 25 29 rfl (errV A 29) (load_glob Tryd.underlying25 29 (errV A 29) (hW 29 29 rfl).out _) ?_
  refine Great.wpList_loadVarTo rfl (some 31) rfl 25 30 rfl (errV A 30) (load_glob Tryd.underlying25 30 (errV A 30) (hW 30 30 rfl).out _) ?_
  refine Great.wpList_loadVarTo rfl (some 32) rfl 25 31 rfl (errV A 31) (load_glob Tryd.underlying25 31 (errV A 31) (hW 31 31 rfl).out _) ?_
  refine Great.wpList_loadVarTo rfl (some 33) rfl 25 32 rfl (errV A 32) (load_glob Tryd.underlying25 32 (errV A 32) (hW 32 32 rfl).out _) ?_
  refine Great.wpList_loadVarTo rfl (some 34) rfl 25 33 rfl (errV A 33) (load_glob Tryd.underlying25 33 (errV A 33) (hW 33 33 rfl).out _) ?_
  refine Great.wpList_loadVarTo rfl (some 35) rfl 25 34 rfl (errV A 34) (load_glob Tryd.underlying25 34 (errV A 34) (hW 34 34 rfl).out _) ?_
  refine Great.wpList_loadVarTo rfl (some 36) rfl 25 35 rfl (errV A 35) (load_glob Tryd.underlying25 35 (errV A 35) (hW 35 35 rfl).out _) ?_
  refine Great.wpList_loadVarTo rfl (some 37) rfl 25 36 rfl (errV A 36) (load_glob Tryd.underlying25 36 (errV A 36) (hW 36 36 rfl).out _) ?_
  refine wpList_buildTo rfl 50 _ rfl (some 38) rfl (listV (errV A)) (by kernel_rfl) ?_
  have e := HW1.out
  clear hW HW1
  subst e
  refine wpList_store_rowTo rfl 50 (.tmp 0) (.tmp 38) rfl rfl w.heap.size (listV (errV A)) (by kernel_rfl) (by kernel_rfl) 50 _ (heap_alloc_new w _) (by kernel_rfl) rfl (by kernel_rfl) ?_
  rw [World.setRow_alloc_new]
  refine wpList_nil ?_
  go_wp2
  exact bodyPost_ret (v := .agg (listV (errV A))) (results_cell_row rfl _ _ w.heap.size 50 (listV (errV A)) (0, 0) _ (by kernel_rfl) (heap_alloc_new w _) Tryd.underlying50 rfl (by kernel_rfl)) rfl ⟨rfl, (Below.refl _ _).alloc (Nat.le_refl _) _⟩

theorem err_info : (Tryd.prog.info? 25).map (·.size) = some 1 := by kernel_rfl
theorem errp_info : (Tryd.prog.info? 59).map (·.comparable) = some true := by kernel_rfl
theorem errs_info : (Tryd.prog.info? 77).map (·.size) = some 1 := by kernel_rfl
/-- Num of nil. -/
theorem num_nil (w : World) : Calls Tryd.prog 14 #[.nilIface] w fun e w' => e = .returned (.int .i64 0) ∧ w = w' := by
  have hn : ∀ W : World, (binOp .eql 25 .nilIface .nilIface).run Tryd.prog W = .ok (.bool true) W := fun W => by kernel_rfl
  go_enter Tryd.func14, Tryd.ntmps14
  go_wp2
  go_ret
  exact ⟨rfl, rfl⟩

/-- What the world must hold: the 37 variables, their addresses. -/
structure Errs (B : Nat) (w : World) (A : Nat → Addr) : Prop where
  size : B ≤ w.heap.size
  gB : ∀ g ∈ errGs, g < B
  inj : ∀ i j, i < 37 → j < 37 → A i = A j → i = j
  var : ∀ i g, errGs[i]? = some g → w.cell? ⟨g, 0, none⟩ = some (errV A i)
  low : ∀ i, i < 37 → (A i).block < B
  row : ∀ i, i < 37 → ∃ c t, w.heap[(A i).block]? = some (.cells c t (0, 0))
theorem Errs.keep {B : Nat} {w w' : World} {A : Nat → Addr} (h : Errs B w A) (hs : B ≤ w'.heap.size) (hk : ∀ b, b < B → w'.heap[b]? = w.heap[b]?) : Errs B w' A :=
  ⟨hs, h.gB, h.inj, fun i g hg => by rw [World.cell?_of_block (w := w) (hk g (h.gB g (List.mem_of_getElem? hg)))]; exact h.var i g hg, h.low, fun i hi => by
    obtain ⟨c, t, hr⟩ := h.row i hi
    exact ⟨c, t, by rw [hk _ (h.low i hi)]; exact hr⟩⟩
theorem Errs.below {B B' : Nat} {w w' : World} {A : Nat → Addr} (h : Errs B w A) (hb : Below B' w w') (hB : B ≤ B') : Errs B w' A :=
  h.keep (Nat.le_trans h.size hb.size) fun b hlt => hb.block b (Nat.lt_of_lt_of_le hlt hB)

theorem errs_of_sents {w : World} {texts : List (List UInt8)} {al : List Addr} (h : Sents 59 w.heap.size w errGs texts al) : Errs w.heap.size w (fun i => al.getD i default) := by
  have hl : al.length = 37 := h.len
  have hg : errGs.length = 37 := rfl
  have hat : ∀ i, i < 37 → ∃ g t, errGs[i]? = some g ∧ SentAt 59 w.heap.size w g (al.getD i default) t := fun i hi => by
    have e1 : errGs[i]? = some (errGs[i]'(by omega)) := List.getElem?_eq_getElem (by omega)
    have e2 : al[i]? = some (al[i]'(by omega)) := List.getElem?_eq_getElem (by omega)
    obtain ⟨t, _, hs⟩ := h.at_ i _ _ e1 e2
    exact ⟨_, t, e1, by rw [List.getD_eq_getElem?_getD, e2]; exact hs⟩
  refine ⟨Nat.le_refl _, fun g hgm => ?_, fun i j hi hj e => ?_, fun i g hgi => ?_, fun i hi => ?_, fun i hi => ?_⟩
  · obtain ⟨i, hi⟩ := List.mem_iff_getElem?.1 hgm
    have hlt : i < 37 := by have := (List.getElem?_eq_some_iff.1 hi).1; omega
    obtain ⟨g', t, e1, hs⟩ := hat i hlt
    rw [hi] at e1
    cases e1
    exact hs.gB
  · have e1 : al[i]? = some (al[i]'(by omega)) := List.getElem?_eq_getElem (by omega)
    have e2 : al[j]? = some (al[j]'(by omega)) := List.getElem?_eq_getElem (by omega)
    simp only [List.getD_eq_getElem?_getD, e1, e2, Option.getD_some] at e
    have hp := List.pairwise_iff_getElem.1 (List.nodup_iff_pairwise_ne.1 h.nodup)
    rcases Nat.lt_trichotomy i j with hlt | hlt | hlt
    · exact absurd e (hp i j _ _ hlt)
    · exact hlt
    · exact absurd e.symm (hp j i _ _ hlt)
  · have hlt : i < 37 := by have := (List.getElem?_eq_some_iff.1 hgi).1; omega
    obtain ⟨g', t, e1, hs⟩ := hat i hlt
    rw [hgi] at e1
    cases e1
    exact hs.var
  · obtain ⟨g, t, _, hs⟩ := hat i hi
    exact hs.aB
  · obtain ⟨g, t, _, hs⟩ := hat i hi
    exact hs.row

theorem err_eq {B : Nat} {w : World} {A : Nat → Addr} (h : Errs B w A) (i j : Nat) (hi : i < 37) (hj : j < 37) : (binOp .eql 25 (errV A i) (errV A j)).run Tryd.prog w = .ok (.bool (decide (i = j))) w := by
  obtain ⟨ip, hip, hcomp⟩ := Option.map_eq_some_iff.1 errp_info
  obtain ⟨is, his, hsz⟩ := Option.map_eq_some_iff.1 errs_info
  by_cases e : i = j
  · subst e
    rw [decide_eq_true rfl]
    exact run_eql_iface_ptr_same w _ Tryd.underlying25 Tryd.underlying59 hip hcomp his
  · rw [decide_eq_false e]
    obtain ⟨ca, ta, ha⟩ := h.row i hi
    obtain ⟨cb, tb, hb⟩ := h.row j hj
    exact run_eql_iface_ptr_other w Tryd.underlying25 Tryd.underlying59 hip hcomp his (by omega) (fun e' => e (h.inj i j hi hj e')) ha hb

set_option maxHeartbeats 1000000 in
theorem num_err (B : Nat) (A : Nat → Addr) (w : World) (h : Errs B w A) (k : Nat) (hk : k < 37) :
    Calls Tryd.prog 14 #[errV A k] w fun e w' => e = .returned (.int .i64 (k + 1)) ∧ Below w.heap.size w w' := by
  have hn : ∀ W : World, (binOp .eql 25 (errV A k) .nilIface).run Tryd.prog W = .ok (.bool false) W := fun W => by kernel_rfl
  obtain ⟨ie, hie, hie1⟩ := Option.map_eq_some_iff.1 err_info
  have hx : ∀ (W : World) (i : Nat), i < 37 → (Instr.index 50 (.agg (listV (errV A))) (.int .i64 (i : Int))).run Tryd.prog W = .ok (errV A i) W := fun W i hi =>
    run_index_arr W 50 25 37 _ ie _ .i64 i _ Tryd.underlying50 Tryd.underlying25 hie hie1 hi (listV_at _ i hi)
  have HX := Lib.hid hx
  clear hx
  have HV := Lib.hid h
  have HVA := Lib.hid h.var
  clear h
  go_enter Tryd.func14, Tryd.ntmps14
  go_wp2_with (go_at_call 22; refine (list_any A _ HVA.out).mono ?_; rintro e w1 ⟨rfl, hb1⟩)
  have HV1 := Lib.hid (HV.out.below hb1 HV.out.size)
  have HB1 := Lib.hid hb1
  clear hb1 hn
  go_loop [8] (fun c => ∃ i : Nat, i ≤ k ∧ c = .int .i64 i) (fun c => 37 - (intOf c).toNat)
  case atStart => exact ⟨0, by omega, rfl⟩
  case round =>
    obtain ⟨i, hi, rfl⟩ := hrel
    have hxi := HX.out w1 i (by omega)
    have he := err_eq HV1.out k i hk (by omega)
    by_cases e : k = i
    · obtain rfl := e
      rw [decide_eq_true rfl] at he
      go_wp2
      go_ret
      exact ⟨rfl, HB1.out⟩
    · have e2 : decide (k = i) = false := by simp [e]
      rw [e2] at he
      go_wp2
      go_round
      case rel => exact ⟨i + 1, by omega, by go_num⟩
      case measure => simp [intOf]; omega
theorem num_of (k : Nat) (n : Int) (hk : k < 37) (hn : (k : Int) + 1 = n) (B : Nat) (A : Nat → Addr) (w : World) (h : Errs B w A) :
    Calls Tryd.prog 14 #[.iface 59 (.pointer (some (A k)))] w fun e w' => e = .returned (.int .i64 n) ∧ Below w.heap.size w w' := by
  have := num_err B A w h k hk
  rw [hn] at this
  exact this
end Go.Proofs.YtfgkgehlokabgaaDoor
