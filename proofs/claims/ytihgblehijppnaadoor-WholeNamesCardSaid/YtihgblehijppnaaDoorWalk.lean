/-
  Layer names: the 37 sentinels and their texts; the walk of WholeNames. (Printed by gen_names.py.)
-/
import Derived.Test.YtihgblehijppnaaDoorProg
import Derived.Test.YtihgblehijppnaaDoorSent
import Derived.WalkKit
import Derived.Below
import Derived.Lib.Hide
import Derived.KernelRfl
import Derived.Great.Walk
import Derived.Great.BuildSlice
import Derived.Deep.Cut
import Derived.WideLaws
import Derived.Deep.WholeRow
import Derived.LaidEql
import Derived.LoopTactic
import Derived.Laws.Concat
import Derived.Deep.QuietTactic
import Derived.BigQuiet
namespace Go.Proofs.YtihgblehijppnaaDoor
open Go.RowKit

theorem load_glob {P : Program} {w : World} {t : TypeId} {ms : Array (String × TypeId)} (ht : P.underlying t = some (.interface ms)) (g : Nat) (v : Value) (hc : w.cell? ⟨g, 0, none⟩ = some v) (o : Oper) :
    ∀ ρ : Operand → Value, ρ (.global g) = .pointer (some ⟨g, 0, none⟩) → (execOp ρ { o with op := .load t (.global g) }).run P w = .ok (.value v) w := by
  intro ρ hρ
  simp [execOp, hρ, go_sem, isAgg, run_underlying ht, hc]

/-- The numbers of the 37 variables, in the statement's order. -/
def errGs : List Nat := [0, 1, 2, 3, 4, 5, 6, 7, 8, 9, 10, 11, 12, 13, 14, 15, 16, 17, 18, 19, 20, 21, 22, 23, 24, 25, 26, 27, 28, 29, 30, 31, 32, 33, 34, 35, 36]
def listV (V : Nat → Value) : Array Value := #[V 0, V 1, V 2, V 3, V 4, V 5, V 6, V 7, V 8, V 9, V 10, V 11, V 12, V 13, V 14, V 15, V 16, V 17, V 18, V 19, V 20, V 21, V 22, V 23, V 24, V 25, V 26, V 27, V 28, V 29, V 30, V 31, V 32, V 33, V 34, V 35, V 36]
/-- The texts, without what they all begin with. -/
def shorts : List (List UInt8) := [[116, 111, 111, 32, 115, 104, 111, 114, 116], [118, 97, 114, 105, 110, 116], [108, 105, 109, 105, 116], [111, 114, 100, 101, 114], [116, 97, 105, 108], [114, 97, 110, 103, 101], [102, 111, 114, 109], [99, 104, 101, 99, 107, 32, 100, 105, 103, 105, 116, 115], [97, 109, 111, 117, 110, 116], [111, 118, 101, 114, 102, 108, 111, 119], [99, 117, 114, 114, 101, 110, 99, 121], [100, 111, 119, 110], [115, 109, 97, 108, 108], [98, 108, 97, 110, 107], [99, 111, 114, 114, 117, 112, 116], [119, 111, 114, 110], [102, 117, 108, 108], [108, 97, 114, 103, 101], [99, 108, 111, 115, 101, 100], [97, 99, 99, 111, 117, 110, 116], [101, 120, 105, 115, 116, 115], [102, 114, 111, 122, 101, 110], [102, 117, 110, 100, 115], [108, 101, 103, 115], [99, 111, 110, 102, 108, 105, 99, 116], [105, 100], [112, 97, 121, 101, 101], [114, 97, 105, 108], [98, 117, 115, 121], [119, 105, 110, 100, 111, 119], [112, 104, 97, 115, 101], [116, 111, 107, 101, 110], [116, 105, 109, 101], [117, 110, 107, 110, 111, 119, 110], [99, 111, 110, 102, 105, 103, 117, 114, 97, 116, 105, 111, 110], [99, 111, 109, 109, 97, 110, 100], [105, 110, 32, 117, 115, 101]]
def sht (i : Nat) : ByteArray := ⟨(shorts.getD i []).toArray⟩
def preL : List UInt8 := [114, 101, 109, 105, 116, 58, 32]
def txt (i : Nat) : ByteArray := ⟨(preL ++ shorts.getD i []).toArray⟩
def strV (i : Nat) : Value := .string (sht i)
theorem txt_eq (i : Nat) : (⟨#[114, 101, 109, 105, 116, 58, 32]⟩ : ByteArray) ++ sht i = txt i := by
  unfold txt sht preL
  rw [ByteArray.ext_iff]
  simp
theorem sht_le : ∀ i, i < 37 → (sht i).size ≤ 64 := by decide
theorem txt_add (i : Nat) (hi : i < 37) (W : World) : (Op.stringOp .add (⟨#[114, 101, 109, 105, 116, 58, 32]⟩ : ByteArray) (sht i)).run Tryd.prog W = .ok (.string (txt i)) W := by
  rw [run_string_add_sum (P := Tryd.prog) W _ _ (by have := sht_le i hi; have h2 : (⟨#[114, 101, 109, 105, 116, 58, 32]⟩ : ByteArray).size = 7 := rfl; omega), txt_eq]
/-- A sentinel's value. -/
def errV (A : Nat → Addr) (i : Nat) : Value := .iface 28 (.pointer (some (A i)))
@[go_sem] theorem eqGuard_errV (op : BinOp) (t : TypeId) (x y : Operand) (A : Nat → Addr) (i : Nat) (v : Value) : eqGuard op t x y (errV A i) v = pure () := by cases op <;> rfl
theorem listV_at (V : Nat → Value) (i : Nat) (h : i < 37) : (listV V)[i]? = some (V i) := by
  have e : listV V = ((List.range 37).map V).toArray := rfl
  rw [e]
  simp [h]
theorem errp_info : (Tryd.prog.info? 28).map (·.comparable) = some true := by kernel_rfl
theorem errs_info : (Tryd.prog.info? 47).map (·.size) = some 1 := by kernel_rfl
/-- What the world must hold: the 37 variables, their addresses, their texts. -/
structure Errs (w : World) (A : Nat → Addr) : Prop where
  inj : ∀ i j, i < 37 → j < 37 → A i = A j → i = j
  var : ∀ i g, errGs[i]? = some g → w.cell? ⟨g, 0, none⟩ = some (errV A i)
  low : ∀ i, i < 37 → (A i).block < w.heap.size
  row : ∀ i, i < 37 → ∃ c t, w.heap[(A i).block]? = some (.cells c t (0, 0))
  str : ∀ i, i < 37 → w.cell? (A i) = some (.string (txt i))
theorem err_eq {B : Nat} {w0 w : World} {A : Nat → Addr} (h : Errs w0 A) (hB : w0.heap.size ≤ B) (hb : Below B w0 w) (i j : Nat) (hi : i < 37) (hj : j < 37) : (binOp .eql 23 (errV A i) (errV A j)).run Tryd.prog w = .ok (.bool (decide (i = j))) w := by
  obtain ⟨ip, hip, hcomp⟩ := Option.map_eq_some_iff.1 errp_info
  obtain ⟨is, his, hsz⟩ := Option.map_eq_some_iff.1 errs_info
  by_cases e : i = j
  · subst e
    rw [decide_eq_true rfl]
    exact run_eql_iface_ptr_same w _ Tryd.underlying23 Tryd.underlying28 hip hcomp his
  · rw [decide_eq_false e]
    obtain ⟨ca, ta, ha⟩ := h.row i hi
    obtain ⟨cb, tb, hb'⟩ := h.row j hj
    have hli := h.low i hi
    have hlj := h.low j hj
    exact run_eql_iface_ptr_other w Tryd.underlying23 Tryd.underlying28 hip hcomp his (by omega) (fun e' => e (h.inj i j hi hj e')) ((hb.block _ (by omega)).trans ha) ((hb.block _ (by omega)).trans hb')

theorem errs_of_sents {w : World} {al : List Addr} (h : Sents 28 w.heap.size w errGs (shorts.map (preL ++ ·)) al) : Errs w (fun i => al.getD i default) := by
  have hl : al.length = 37 := h.len
  have hg : errGs.length = 37 := rfl
  have hat : ∀ i, i < 37 → ∃ g, errGs[i]? = some g ∧ SentAt 28 w.heap.size w g (al.getD i default) (preL ++ shorts.getD i []) := fun i hi => by
    have e1 : errGs[i]? = some (errGs[i]'(by omega)) := List.getElem?_eq_getElem (by omega)
    have e2 : al[i]? = some (al[i]'(by omega)) := List.getElem?_eq_getElem (by omega)
    obtain ⟨t, ht, hs⟩ := h.at_ i _ _ e1 e2
    have hsl : shorts.length = 37 := rfl
    have e3 : shorts[i]? = some (shorts[i]'(by omega)) := List.getElem?_eq_getElem (by omega)
    rw [List.getElem?_map, e3] at ht
    have e4 : t = preL ++ shorts.getD i [] := by
      rw [List.getD_eq_getElem?_getD, e3]
      exact (Option.some.inj ht).symm
    exact ⟨_, e1, by rw [List.getD_eq_getElem?_getD, e2, ← e4]; exact hs⟩
  refine ⟨fun i j hi hj e => ?_, fun i g hgi => ?_, fun i hi => ?_, fun i hi => ?_, fun i hi => ?_⟩
  · have e1 : al[i]? = some (al[i]'(by omega)) := List.getElem?_eq_getElem (by omega)
    have e2 : al[j]? = some (al[j]'(by omega)) := List.getElem?_eq_getElem (by omega)
    simp only [List.getD_eq_getElem?_getD, e1, e2, Option.getD_some] at e
    have hp := List.pairwise_iff_getElem.1 (List.nodup_iff_pairwise_ne.1 h.nodup)
    rcases Nat.lt_trichotomy i j with hlt | hlt | hlt
    · exact absurd e (hp i j _ _ hlt)
    · exact hlt
    · exact absurd e.symm (hp j i _ _ hlt)
  · have hlt : i < 37 := by have := (List.getElem?_eq_some_iff.1 hgi).1; omega
    obtain ⟨g', e1, hs⟩ := hat i hlt
    rw [hgi] at e1
    cases e1
    exact hs.var
  · obtain ⟨g, _, hs⟩ := hat i hi
    exact hs.aB
  · obtain ⟨g, _, hs⟩ := hat i hi
    exact hs.row
  · obtain ⟨g, _, hs⟩ := hat i hi
    obtain ⟨s, hs1, hs2, _⟩ := hs.str
    rw [hs1]
    unfold txt
    rw [← hs2]
set_option maxHeartbeats 1000000 in
theorem kinds_any (w : World) : Calls Tryd.prog 4 #[] w fun e w' => e = .returned (.bool true) ∧ w = w' := by
  go_enter Tryd.func4, Tryd.ntmps4
  go_wp2
  go_ret
  exact ⟨rfl, rfl⟩
set_option maxHeartbeats 1000000 in
theorem error_any (a : Addr) (s : ByteArray) (w : World) (h : w.cell? a = some (.string s)) : Calls Tryd.prog 20 #[.pointer (some a)] w fun e w' => e = .returned (.string s) ∧ w = w' := by
  obtain ⟨b, o, sp⟩ := a
  go_enter Tryd.func20, Tryd.ntmps20
  go_wp2
  go_ret
  exact ⟨rfl, rfl⟩
theorem buildS {P : Program} {ops : Array Oper} {rest : List Oper} {o : Oper} {a : Act} {w : World} {Q : Exit → Act → World → Prop} (hg : o.guard = none) (d : Tmp) (hd : o.dst = some d) (t e : TypeId) (len : Nat) (parts : Array (Nat × Operand)) (ho : o.op = .buildSlice t len parts)
    (cells : Array Value) (z : Value) (by' : Nat) (hu : P.underlying t = some (.slice e)) (hin : (P.info? e).map (fun i => (i.zero, i.size, i.bytes)) = some (some z, 1, by')) (hsmall : ¬ len > 2 ^ 24) (hpos : ¬ len = 0)
    (hf : Instr.fill (fun i => some (i * 1, 1)) ((Array.range (len * 1)).map (z.cells[· % z.cells.size]!)) (parts.map fun (i, x) => (i, a.eval x)).toList = some cells)
    (h : wpList P ops Q rest (a.put (some d) (.slice (some ⟨w.heap.size, 0, none⟩) len len)) (w.alloc (.cells cells e))) : wpList P ops Q (o :: rest) a w := by
  obtain ⟨i, hi, hz, hs, _⟩ := info_parts hin
  refine wpList_buildSlice hg t e len parts ho cells i z hu hi hz (by rw [hs]; omega) (by rw [hs]; omega) (by rw [hs]; exact hf) ?_
  rw [hd]
  exact h
theorem quiet_of_left {P : Program} {f : FuncId} {args : Array Value} {w : World} {n : Nat} {v : Value}
    (h : Calls P f args (w.drewN n) fun e w' => e = .returned v ∧ w.drewN n = w') : Calls P f args (w.drewN n) fun e w'' => e = .returned v ∧ ∃ m, w'' = w.drewN m :=
  h.mono fun _ _ ⟨he, hm⟩ => ⟨he, n, hm.symm⟩
theorem quiet_call_of {P : Program} {o : Oper} {a : Act} {C : World → Prop} {K : Act → Prop} {f : FuncId} {args : Array Value} {v : Value} (hrun : ∀ w, (execOp a.eval o).run P w = .ok (.enter f args) w)
    (hc : ∀ w, C w → Calls P f args w (fun e w'' => e = .returned v ∧ C w'')) (hk : K (a.put o.dst v)) : o.quiet P a C K :=
  ⟨v, fun w hw => by unfold Oper.quietAt; rw [hrun w]; exact ⟨rfl, hc w hw⟩, hk⟩
theorem errI : (Tryd.prog.info? 23).map (fun i => (i.zero, i.size, i.bytes)) = some (some .nilIface, 1, 16) := by kernel_rfl
theorem strI : (Tryd.prog.info? 9).map (fun i => (i.zero, i.size, i.bytes)) = some (some (.string ⟨#[]⟩), 1, 16) := by kernel_rfl
set_option maxRecDepth 100000 in
set_option maxHeartbeats 4000000 in
theorem names_law (A : Nat → Addr) (w : World) (h : Errs w A) :
    Calls Tryd.prog 3 #[] w fun e w' => e = .returned (.bool true) ∧ Below w.heap.size w w' := by
  have hW : ∀ i g, errGs[i]? = some g → Hid (w.cell? ⟨g, 0, none⟩ = some (errV A i)) := fun i g hg => Lib.hid (h.var i g hg)
  have H := Lib.hid h
  clear h
  go_enter Tryd.func3, Tryd.ntmps3
  go_upto_region 5 with (fail)
  refine wp_region_lit ?_
  refine Great.wpList_loadVarTo rfl (some 6) rfl 23 0 rfl (errV A 0) (load_glob Tryd.underlying23 0 (errV A 0) (hW 0 0 rfl).out _) ?_
  refine Great.wpList_loadVarTo rfl (some 7) rfl 23 1 rfl (errV A 1) (load_glob Tryd.underlying23 1 (errV A 1) (hW 1 1 rfl).out _) ?_
  refine Great.wpList_loadVarTo rfl (some 8) rfl 23 2 rfl (errV A 2) (load_glob Tryd.underlying23 2 (errV A 2) (hW 2 2 rfl).out _) ?_
  refine Great.wpList_loadVarTo rfl (some 9) rfl 23 3 rfl (errV A 3) (load_glob Tryd.underlying23 3 (errV A 3) (hW 3 3 rfl).out _) ?_
  refine Great.wpList_loadVarTo rfl (some 10) rfl 23 4 rfl (errV A 4) (load_glob Tryd.underlying23 4 (errV A 4) (hW 4 4 rfl).out _) ?_
  refine Great.wpList_loadVarTo rfl (some 11) rfl 23 5 rfl (errV A 5) (load_glob Tryd.underlying23 5 (errV A 5) (hW 5 5 rfl).out _) ?_
  refine Great.wpList_loadVarTo rfl (some 12) rfl 23 6 rfl (errV A 6) (load_glob Tryd.underlying23 6 (errV A 6) (hW 6 6 rfl).out _) ?_
  refine Great.wpList_loadVarTo rfl (some 13) rfl 23 7 rfl (errV A 7) (load_glob Tryd.underlying23 7 (errV A 7) (hW 7 7 rfl).out _) ?_
  refine Great.wpList_loadVarTo rfl (some 14) rfl 23 8 rfl (errV A 8) (load_glob Tryd.underlying23 8 (errV A 8) (hW 8 8 rfl).out _) ?_
  refine Great.wpList_loadVarTo rfl (some 15) rfl 23 9 rfl (errV A 9) (load_glob Tryd.underlying23 9 (errV A 9) (hW 9 9 rfl).out _) ?_
  refine Great.wpList_loadVarTo rfl (some 16) rfl 23 10 rfl (errV A 10) (load_glob Tryd.underlying23 10 (errV A 10) (hW 10 10 rfl).out _) ?_
  refine Great.wpList_loadVarTo rfl (some 17) rfl 23 11 rfl (errV A 11) (load_glob Tryd.underlying23 11 (errV A 11) (hW 11 11 rfl).out _) ?_
  refine Great.wpList_loadVarTo rfl (some 18) rfl 23 12 rfl (errV A 12) (load_glob Tryd.underlying23 12 (errV A 12) (hW 12 12 rfl).out _) ?_
  refine Great.wpList_loadVarTo rfl (some 19) rfl 23 13 rfl (errV A 13) (load_glob Tryd.underlying23 13 (errV A 13) (hW 13 13 rfl).out _) ?_
  refine Great.wpList_loadVarTo rfl (some 20) rfl 23 14 rfl (errV A 14) (load_glob Tryd.underlying23 14 (errV A 14) (hW 14 14 rfl).out _) ?_
  refine Great.wpList_loadVarTo rfl (some 21) rfl 23 15 rfl (errV A 15) (load_glob Tryd.underlying23 15 (errV A 15) (hW 15 15 rfl).out _) ?_
  refine Great.wpList_loadVarTo rfl (some 22) rfl 23 16 rfl (errV A 16) (load_glob Tryd.underlying23 16 (errV A 16) (hW 16 16 rfl).out _) ?_
  refine Great.wpList_loadVarTo rfl (some 23) rfl 23 17 rfl (errV A 17) (load_glob Tryd.underlying23 17 (errV A 17) (hW 17 17 rfl).out _) ?_
  refine Great.wpList_loadVarTo rfl (some 24) rfl 23 18 rfl (errV A 18) (load_glob Tryd.underlying23 18 (errV A 18) (hW 18 18 rfl).out _) ?_
  refine Great.wpList_loadVarTo rfl (some 25) rfl 23 19 rfl (errV A 19) (load_glob Tryd.underlying23 19 (errV A 19) (hW 19 19 rfl).out _) ?_
  refine Great.wpList_loadVarTo rfl (some 26) rfl 23 20 rfl (errV A 20) (load_glob Tryd.underlying23 20 (errV A 20) (hW 20 20 rfl).out _) ?_
  refine Great.wpList_loadVarTo rfl (some 27) rfl 23 21 rfl (errV A 21) (load_glob Tryd.underlying23 21 (errV A 21) (hW 21 21 rfl).out _) ?_
  refine Great.wpList_loadVarTo rfl (some 28) rfl 23 22 rfl (errV A 22) (load_glob Tryd.underlying23 22 (errV A 22) (hW 22 22 rfl).out _) ?_
  refine Great.wpList_loadVarTo rfl (some 29) rfl 23 23 rfl (errV A 23) (load_glob Tryd.underlying23 23 (errV A 23) (hW 23 23 rfl).out _) ?_
  refine Great.wpList_loadVarTo rfl (some 30) rfl 23 24 rfl (errV A 24) (load_glob Tryd.underlying23 24 (errV A 24) (hW 24 24 rfl).out _) ?_
  refine Great.wpList_loadVarTo rfl (some 31) rfl 23 25 rfl (errV A 25) (load_glob Tryd.underlying23 25 (errV A 25) (hW 25 25 rfl).out _) ?_
  refine Great.wpList_loadVarTo rfl (some 32) rfl 23 26 rfl (errV A 26) (load_glob Tryd.underlying23 26 (errV A 26) (hW 26 26 rfl).out _) ?_
  refine Great.wpList_loadVarTo rfl (some 33) rfl 23 27 rfl (errV A 27) (load_glob Tryd.underlying23 27 (errV A 27) (hW 27 27 rfl).out _) ?_
  refine Great.wpList_loadVarTo rfl (some 34) rfl 23 28 rfl (errV A 28) (load_glob Tryd.underlying23 28 (errV A 28) (hW 28 28 rfl).out _) ?_
  refine Great.wpList_loadVarTo rfl (some 35) rfl 23 29 rfl (errV A 29) (load_glob Tryd.underlying23 29 (errV A 29) (hW 29 29 rfl).out _) ?_
  refine Great.wpList_loadVarTo rfl (some 36) rfl 23 30 rfl (errV A 30) (load_glob Tryd.underlying23 30 (errV A 30) (hW 30 30 rfl).out _) ?_
  refine Great.wpList_loadVarTo rfl (some 37) rfl 23 31 rfl (errV A 31) (load_glob Tryd.underlying23 31 (errV A 31) (hW 31 31 rfl).out _) ?_
  refine Great.wpList_loadVarTo rfl (some 38) rfl 23 32 rfl (errV A 32) (load_glob Tryd.underlying23 32 (errV A 32) (hW 32 32 rfl).out _) ?_
  refine Great.wpList_loadVarTo rfl (some 39) rfl 23 33 rfl (errV A 33) (load_glob Tryd.underlying23 33 (errV A 33) (hW 33 33 rfl).out _) ?_
  refine Great.wpList_loadVarTo rfl (some 40) rfl 23 34 rfl (errV A 34) (load_glob Tryd.underlying23 34 (errV A 34) (hW 34 34 rfl).out _) ?_
  refine Great.wpList_loadVarTo rfl (some 41) rfl 23 35 rfl (errV A 35) (load_glob Tryd.underlying23 35 (errV A 35) (hW 35 35 rfl).out _) ?_
  refine Great.wpList_loadVarTo rfl (some 42) rfl 23 36 rfl (errV A 36) (load_glob Tryd.underlying23 36 (errV A 36) (hW 36 36 rfl).out _) ?_
  refine buildS rfl 43 rfl 24 23 37 _ rfl (listV (errV A)) _ _ Tryd.underlying24 errI (by decide) (by decide) (by kernel_rfl) ?_
  go_upto_region 6 with (fail)
  refine wp_region_lit ?_
  refine buildS rfl 44 rfl 25 9 37 _ rfl (listV strV) _ _ Tryd.underlying25 strI (by decide) (by decide) (by kernel_rfl) ?_
  go_upto_region 7 with (fail)
  obtain ⟨w2, hw2⟩ : ∃ W, Hid ((w.alloc (.cells (listV (errV A)) 23)).alloc (.cells (listV strV) 9) = W) := ⟨_, Lib.hid rfl⟩
  have HB2 : Hid (Below w.heap.size w w2) := by rw [← hw2.out]; exact Lib.hid (((Below.refl _ w).alloc (Nat.le_refl _) _).alloc (by simp) _)
  have HS2 : Hid (w2.heap.size = w.heap.size + 1 + 1) := by rw [← hw2.out]; exact Lib.hid (by simp)
  have HE2 : Hid (∀ i, i < 37 → w2.cell? ⟨w.heap.size, i, none⟩ = some (errV A i)) := by
    rw [← hw2.out]
    exact Lib.hid fun i hi => by
      rw [World.cell?_alloc_lt (h := by simp), World.cell?_alloc_at _ _ _ _ rfl]
      exact listV_at _ i hi
  have HT2 : Hid (∀ i, i < 37 → w2.cell? ⟨w.heap.size + 1, i, none⟩ = some (.string (sht i))) := by
    rw [← hw2.out]
    exact Lib.hid fun i hi => by
      rw [World.cell?_alloc_at _ _ _ _ (by simp)]
      exact listV_at _ i hi
  rw [hw2.out]
  clear hw2 hW
  go_wp2_with fail
  go_loopw [47] (fun i wr => ∃ k : Nat, k ≤ 37 ∧ i = .int .i64 k ∧ Hid (Below w2.heap.size w2 wr)) (fun i _ => 37 - (intOf i).toNat)
  case atStart => exact ⟨0, by omega, rfl, Lib.hid (Below.refl _ _)⟩
  case round =>
    obtain ⟨k, hk, rfl, HW⟩ := hrel
    by_cases hkn : k < 37
    · have hkn2 : (k : Int) < 37 := by omega
      have hbr : Hid (Below w.heap.size w wr) := Lib.hid (HB2.out.trans (HW.out.mono HB2.out.size))
      have hlt : w.heap.size + 1 < wr.heap.size := by have h1 := HW.out.size; have h2 := HS2.out; omega
      have hlt0 : w.heap.size < wr.heap.size := by omega
      have c0 : wr.cell? ⟨w.heap.size, k, none⟩ = some (errV A k) := by rw [HW.out.cell (by show w.heap.size < _; have := HS2.out; omega)]; exact HE2.out k hkn
      have c1 : wr.cell? ⟨w.heap.size + 1, k, none⟩ = some (.string (sht k)) := by rw [HW.out.cell (by show w.heap.size + 1 < _; have := HS2.out; omega)]; exact HT2.out k hkn
      have hcat := txt_add k hkn
      have HC : Hid (wr.cell? (A k) = some (.string (txt k))) := Lib.hid (by rw [hbr.out.cell (H.out.low k hkn)]; exact H.out.str k hkn)
      generalize sht k = x at c1 hcat
      generalize txt k = t at HC hcat
      have hnil : ∀ W : World, (binOp .eql 23 (errV A k) .nilIface).run Tryd.prog W = .ok (.bool false) W := fun W => by kernel_rfl
      have hs := fun n => quiet_of_left (error_any (A k) t (wr.drewN n) HC.out)
      go_upto_region 10 with (fail)
      refine wp_region_quiet_lit (by kernel_rfl) (by kernel_rfl) ?_
      repeat (go_big_quiet_step (fail))
      go_big_quiet_want
      refine quiet_call_of (f := 20) (args := #[.pointer (some (A k))]) (v := .string t) (fun w => by kernel_rfl) (fun w' hw => ?_) ?_
      · obtain ⟨m, rfl⟩ := hw
        exact hs m
      go_simp
      go_big_quiet_on
      repeat (go_big_quiet_step (fail))
      refine wpQuiet_nil ?_
      intro _ hw'
      obtain ⟨nq, hw''⟩ := hw'
      subst hw''
      have hb6 : Hid (Below w2.heap.size w2 (wr.drewN nq)) := Lib.hid ⟨HW.out.os, HW.out.tape, HW.out.output, HW.out.size, HW.out.block⟩
      generalize wr.drewN nq = w6 at hb6 ⊢
      have hbr6 : Hid (Below w.heap.size w w6) := Lib.hid (HB2.out.trans (hb6.out.mono HB2.out.size))
      have hlt6 : w.heap.size < w6.heap.size := by have h1 := hb6.out.size; have h2 := HS2.out; omega
      clear c0 c1 hcat HC hs hnil hbr hlt hlt0 HW
      go_wp2_with fail
      go_loop [5] (fun v => ∃ j : Nat, j ≤ k ∧ v = .int .i64 j) (fun v => k - (intOf v).toNat)
      case atStart => exact ⟨0, by omega, rfl⟩
      case round =>
        obtain ⟨j, hj, rfl⟩ := hrel
        by_cases hjk : j < k
        · have hjk2 : (j : Int) < (k : Int) := by omega
          have hj37 : (j : Int) < 37 := by omega
          have c0 : w6.cell? ⟨w.heap.size, j, none⟩ = some (errV A j) := by rw [hb6.out.cell (by show w.heap.size < _; have := HS2.out; omega)]; exact HE2.out j (by omega)
          have he := err_eq H.out (Nat.le_refl _) hbr6.out j k (by omega) hkn
          rw [show decide (j = k) = false from by simp; omega] at he
          go_wp2_with fail
          go_round
          case rel => exact ⟨j + 1, by omega, by go_num⟩
          case measure => simp [intOf]; omega
        · have hjk2 : ¬ (j : Int) < (k : Int) := by omega
          go_wp2_with fail
          go_roundw
          case rel => exact ⟨k + 1, by omega, by go_num, hb6⟩
          case measure => simp [intOf]; omega
    · have hkn2 : ¬ (k : Int) < 37 := by omega
      go_wp2_with fail
      refine (kinds_any _).mono ?_
      rintro e w9 ⟨rfl, rfl⟩
      go_wp2_with fail
      go_ret
      exact ⟨rfl, HB2.out.trans (HW.out.mono HB2.out.size)⟩
end Go.Proofs.YtihgblehijppnaaDoor
