/-
  Walks over layer 2: parts as values: Text, Number, plain.
-/
import Derived.Test.YtfgkgehlokabgaaDoorJoin
import Derived.Laws.StructEq
import Derived.StillTailTactics
import Derived.Lib.Strings
import Derived.WideShapes
namespace Go.Proofs.YtfgkgehlokabgaaDoor
open Go.RowKit

/-- A part as a value. -/
def PV.val (p : PV) : Value := .agg #[.bool p.num, .int .i64 p.n, .string p.s]
theorem results_cell1 {fn : Func} {p : Tmp} {ty : TypeId} (h : fn.results = #[.cell p ty]) (tmps : Array Value) (P : Program) (w : World) :
    (results fn tmps).run P w = ((asAddr (tmps.getD p undef)).run P w).andThen fun a w₁ => (loadVar ty a).run P w₁ := by
  simp only [results, h]
  simp [Sem.run_bind, Result.andThen]
set_option maxHeartbeats 1000000 in
theorem text_any (s : ByteArray) (w : World) :
    Calls Tryd.prog 17 #[.string s] w fun e w' => e = .returned (.agg #[.bool false, .int .i64 0, .string s]) ∧ Below w.heap.size w w' := by
  go_enter Tryd.func17, Tryd.ntmps17
  go_wp2
  refine bodyPost_ret (v := .agg #[.bool false, .int .i64 0, .string s]) (by rw [results_cell1 rfl]; go_simp) rfl ⟨rfl, ?_⟩
  exact (Below.refl _ _).alloc (Nat.le_refl _) _
set_option maxHeartbeats 1000000 in
theorem number_any (n : Int) (w : World) :
    Calls Tryd.prog 16 #[.int .i64 n] w fun e w' => e = .returned (.agg #[.bool true, .int .i64 n, .string ⟨#[]⟩]) ∧ Below w.heap.size w w' := by
  go_enter Tryd.func16, Tryd.ntmps16
  go_wp2
  refine bodyPost_ret (v := .agg #[.bool true, .int .i64 n, .string ⟨#[]⟩]) (by rw [results_cell1 rfl]; go_simp) rfl ⟨rfl, ?_⟩
  exact (Below.refl _ _).alloc (Nat.le_refl _) _
/-- A part with the field that isn't looked at emptied. -/
def PV.nrm (p : PV) : PV := if p.num = true then ⟨true, p.n, ⟨#[]⟩⟩ else ⟨false, 0, p.s⟩
theorem nrm_toP (p : PV) : p.nrm.toP = Ky.norm p.toP := by
  obtain ⟨b, n, s⟩ := p
  cases b <;> rfl
theorem toP_inj {p q : PV} (h : p.toP = q.toP) : p = q := by
  obtain ⟨b, n, s⟩ := p
  obtain ⟨b', n', s'⟩ := q
  simp only [PV.toP, Ky.Part.mk.injEq] at h
  obtain ⟨rfl, rfl, h3⟩ := h
  rw [Go.WideShapes.bytes_inj h3]
theorem nrm_eq (p q : PV) : p.nrm = q.nrm ↔ Ky.norm p.toP = Ky.norm q.toP := by
  rw [← nrm_toP, ← nrm_toP]
  exact ⟨fun h => by rw [h], toP_inj⟩
set_option maxHeartbeats 1000000 in
theorem plain_any (p : PV) (w : World) :
    Calls Tryd.prog 19 #[.agg #[.bool p.num, .int .i64 p.n, .string p.s]] w fun e w' => e = .returned (.agg #[.bool p.nrm.num, .int .i64 p.nrm.n, .string p.nrm.s]) ∧ Below w.heap.size w w' := by
  obtain ⟨b, n, s⟩ := p
  cases b
  · simp only [PV.nrm]
    go_enter Tryd.func19, Tryd.ntmps19
    go_wp2
    refine bodyPost_ret (v := .agg #[.bool false, .int .i64 0, .string s]) (by rw [results_cell1 rfl]; go_simp) rfl ⟨rfl, ?_⟩
    exact ((Below.refl _ _).alloc (Nat.le_refl _) _).alloc (by simp) _
  · simp only [PV.nrm]
    go_enter Tryd.func19, Tryd.ntmps19
    go_wp2
    refine bodyPost_ret (v := .agg #[.bool true, .int .i64 n, .string ⟨#[]⟩]) (by rw [results_cell1 rfl]; go_simp) rfl ⟨rfl, ?_⟩
    exact ((Below.refl _ _).alloc (Nat.le_refl _) _).alloc (by simp) _
/-- The order of two numbers. -/
def cmpI (a b : Int) : Int := if a < b then -1 else if b < a then 1 else 0
theorem cmp_int (a b : Int) (w : World) : Calls Tryd.prog 24 #[.int .i64 a, .int .i64 b] w fun e w' => e = .returned (.int .i64 (cmpI a b)) ∧ w = w' := by
  have hnan : ∀ (x : Int) (W : World), Calls Tryd.prog 28 #[.int .i64 x] W fun e w' => e = .returned (.bool false) ∧ W = w' := fun x W => by
    go_enter Tryd.func28, Tryd.ntmps28
    go_wp2
    go_ret
    exact ⟨rfl, rfl⟩
  have HN := hide hnan
  clear hnan
  rcases Int.lt_trichotomy a b with h | h | h
  · have HC := Lib.hid (show cmpI a b = -1 by unfold cmpI; rw [if_pos h])
    go_enter Tryd.func24, Tryd.ntmps24
    go_wp2_with (go_at_call 28; refine (unhide HN _ _).mono ?_; rintro e w' ⟨rfl, rfl⟩)
    go_ret
    exact ⟨by rw [HC.out]; rfl, rfl⟩
  · subst h
    have HC := Lib.hid (show cmpI a a = 0 by unfold cmpI; rw [if_neg (by omega), if_neg (by omega)])
    go_enter Tryd.func24, Tryd.ntmps24
    go_wp2_with (go_at_call 28; refine (unhide HN _ _).mono ?_; rintro e w' ⟨rfl, rfl⟩)
    go_ret
    exact ⟨by rw [HC.out]; rfl, rfl⟩
  · have HC := Lib.hid (show cmpI a b = 1 by unfold cmpI; rw [if_neg (by omega), if_pos h])
    have h2 : ¬ a < b := by omega
    go_enter Tryd.func24, Tryd.ntmps24
    go_wp2_with (go_at_call 28; refine (unhide HN _ _).mono ?_; rintro e w' ⟨rfl, rfl⟩)
    go_ret
    exact ⟨by rw [HC.out]; rfl, rfl⟩
theorem cmp_int64 (a b : Int) (w : World) : Calls Tryd.prog 26 #[.int .i64 a, .int .i64 b] w fun e w' => e = .returned (.int .i64 (cmpI a b)) ∧ w = w' := by
  have hnan : ∀ (x : Int) (W : World), Calls Tryd.prog 29 #[.int .i64 x] W fun e w' => e = .returned (.bool false) ∧ W = w' := fun x W => by
    go_enter Tryd.func29, Tryd.ntmps29
    go_wp2
    go_ret
    exact ⟨rfl, rfl⟩
  have HN := hide hnan
  clear hnan
  rcases Int.lt_trichotomy a b with h | h | h
  · have HC := Lib.hid (show cmpI a b = -1 by unfold cmpI; rw [if_pos h])
    go_enter Tryd.func26, Tryd.ntmps26
    go_wp2_with (go_at_call 29; refine (unhide HN _ _).mono ?_; rintro e w' ⟨rfl, rfl⟩)
    go_ret
    exact ⟨by rw [HC.out]; rfl, rfl⟩
  · subst h
    have HC := Lib.hid (show cmpI a a = 0 by unfold cmpI; rw [if_neg (by omega), if_neg (by omega)])
    go_enter Tryd.func26, Tryd.ntmps26
    go_wp2_with (go_at_call 29; refine (unhide HN _ _).mono ?_; rintro e w' ⟨rfl, rfl⟩)
    go_ret
    exact ⟨by rw [HC.out]; rfl, rfl⟩
  · have HC := Lib.hid (show cmpI a b = 1 by unfold cmpI; rw [if_neg (by omega), if_pos h])
    have h2 : ¬ a < b := by omega
    go_enter Tryd.func26, Tryd.ntmps26
    go_wp2_with (go_at_call 29; refine (unhide HN _ _).mono ?_; rintro e w' ⟨rfl, rfl⟩)
    go_ret
    exact ⟨by rw [HC.out]; rfl, rfl⟩
/-- The order of two texts. -/
def cmpS (a b : List UInt8) : Int := if Op.bytesLess a b = true then -1 else if Op.bytesLess b a = true then 1 else 0
theorem cmp_str (a b : ByteArray) (w : World) : Calls Tryd.prog 27 #[.string a, .string b] w fun e w' => e = .returned (.int .i64 (cmpS a.data.toList b.data.toList)) ∧ w = w' := by
  have hnan : ∀ (x : ByteArray) (W : World), Calls Tryd.prog 30 #[.string x] W fun e w' => e = .returned (.bool false) ∧ W = w' := fun x W => by
    go_enter Tryd.func30, Tryd.ntmps30
    go_wp2
    go_ret
    exact ⟨rfl, rfl⟩
  have HN := hide hnan
  clear hnan
  cases h1 : Op.bytesLess a.data.toList b.data.toList
  · cases h2 : Op.bytesLess b.data.toList a.data.toList
    · have e := Ky.less_total _ _ h1 h2
      have e2 : a = b := Go.WideShapes.bytes_inj e
      subst e2
      have HC := Lib.hid (show cmpS a.data.toList a.data.toList = 0 by unfold cmpS; rw [h1]; simp)
      have f1 : Op.bytesLess a.toList a.toList = false := by rw [ByteArray.toList_eq]; exact h1
      clear h1 h2 e
      go_enter Tryd.func27, Tryd.ntmps27
      go_wp2_with (go_at_call 30; refine (unhide HN _ _).mono ?_; rintro e w' ⟨rfl, rfl⟩)
      go_ret
      exact ⟨by rw [HC.out]; rfl, rfl⟩
    · have HC := Lib.hid (show cmpS a.data.toList b.data.toList = 1 by unfold cmpS; rw [h1, h2]; simp)
      have f1 : Op.bytesLess a.toList b.toList = false := by rw [ByteArray.toList_eq, ByteArray.toList_eq]; exact h1
      have f2 : (a.toList == b.toList) = false := by
        rw [ByteArray.toList_eq, ByteArray.toList_eq]
        exact beq_eq_false_iff_ne.2 fun e => by rw [e, Ky.less_irrefl] at h2; cases h2
      clear h1 h2
      go_enter Tryd.func27, Tryd.ntmps27
      go_wp2_with (go_at_call 30; refine (unhide HN _ _).mono ?_; rintro e w' ⟨rfl, rfl⟩)
      go_ret
      exact ⟨by rw [HC.out]; rfl, rfl⟩
  · have HC := Lib.hid (show cmpS a.data.toList b.data.toList = -1 by unfold cmpS; rw [h1]; simp)
    have f1 : Op.bytesLess a.toList b.toList = true := by rw [ByteArray.toList_eq, ByteArray.toList_eq]; exact h1
    clear h1
    go_enter Tryd.func27, Tryd.ntmps27
    go_wp2_with (go_at_call 30; refine (unhide HN _ _).mono ?_; rintro e w' ⟨rfl, rfl⟩)
    go_ret
    exact ⟨by rw [HC.out]; rfl, rfl⟩
set_option maxHeartbeats 2000000 in
theorem compare_any (p q : PV) (w : World) :
    Calls Tryd.prog 23 #[.agg #[.bool p.num, .int .i64 p.n, .string p.s], .agg #[.bool q.num, .int .i64 q.n, .string q.s]] w fun e w' => e = .returned (.int .i64 (Ky.cmpP p.toP q.toP)) ∧ Below w.heap.size w w' := by
  have h64 := hide fun (a b : Int) (W : World) => cmp_int64 a b W
  have hst := hide fun (a b : ByteArray) (W : World) => cmp_str a b W
  obtain ⟨b, n, s⟩ := p
  obtain ⟨b', n', s'⟩ := q
  obtain ⟨r, hr⟩ : ∃ r, Hid (Ky.cmpP (PV.toP ⟨b, n, s⟩) (PV.toP ⟨b', n', s'⟩) = r) := ⟨_, Lib.hid rfl⟩
  rw [hr.out]
  cases b <;> cases b'
  · have HR : Hid (cmpS s.data.toList s'.data.toList = r) := hr
    go_enter Tryd.func23, Tryd.ntmps23
    go_wp2_with (go_at_call 27; refine (unhide hst _ _ _).mono ?_; rintro e w' ⟨rfl, rfl⟩)
    go_ret
    exact ⟨by rw [← HR.out]; rfl, ((Below.refl _ _).alloc (Nat.le_refl _) _).alloc (by simp) _⟩
  · have HR : Hid (1 = r) := hr
    go_enter Tryd.func23, Tryd.ntmps23
    go_wp2_with fail
    go_ret
    exact ⟨by rw [← HR.out]; rfl, ((Below.refl _ _).alloc (Nat.le_refl _) _).alloc (by simp) _⟩
  · have HR : Hid (-1 = r) := hr
    go_enter Tryd.func23, Tryd.ntmps23
    go_wp2_with fail
    go_ret
    exact ⟨by rw [← HR.out]; rfl, ((Below.refl _ _).alloc (Nat.le_refl _) _).alloc (by simp) _⟩
  · have HR : Hid (cmpI n n' = r) := hr
    go_enter Tryd.func23, Tryd.ntmps23
    go_wp2_with (go_at_call 26; refine (unhide h64 _ _ _).mono ?_; rintro e w' ⟨rfl, rfl⟩)
    go_ret
    exact ⟨by rw [← HR.out]; rfl, ((Below.refl _ _).alloc (Nat.le_refl _) _).alloc (by simp) _⟩
end Go.Proofs.YtfgkgehlokabgaaDoor
