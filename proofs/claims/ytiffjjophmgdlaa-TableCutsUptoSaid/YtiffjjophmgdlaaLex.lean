/-
  A region that draws its order, inside a fence, whose calls part it: whatever stands before a call waits for none behind it. One walk of the order of the text serves every order. No statement of the seat is proved here.
-/
import Derived.Test.YtiffjjophmgdlaaOf
import Derived.OrdersIn
import Derived.CallsIn
namespace Go.Proofs.Ytiffjjophmgdlaa
open Go.RowKit

variable {F : Fence} {n : Nat} {P : Program} {ops : Array Oper} {Q : Exit → Act → World → Prop}
/-- A call: what parts a region. -/
def bar (o : Oper) : Bool := match o.op with
  | .call _ => true
  | _ => false
theorem about_bar {o : Oper} (h : bar o = false) (w : World) (ρ : Operand → Value) : o.about P w ρ = none := by
  unfold bar at h
  unfold Oper.about
  split <;> simp_all
/-- The operation yields v at this world, and leaves it; or it is passed over. -/
def YieldsW (P : Program) (ops : Array Oper) (o : Oper) (v : Value) (a : Act) (w : World) : Prop :=
  (Region.wanted o (yielded ops a.tmps) = true ∧ (execOp a.eval o).run P w = .ok (.value v) w) ∨ (Region.wanted o (yielded ops a.tmps) = false ∧ v = undef)
theorem YieldsW.of_same {o : Oper} {v : Value} {a a' : Act} {w : World} (hy : YieldsW P ops o v a w) (he : execOp a'.eval o = execOp a.eval o) (hw : Region.wanted o (yielded ops a'.tmps) = Region.wanted o (yielded ops a.tmps)) : YieldsW P ops o v a' w := by
  unfold YieldsW at *
  rw [he, hw]
  exact hy
/-- One step: a call as ever; what is no call yields. -/
def stepM (F : Fence) (n : Nat) (P : Program) (ops : Array Oper) (Q : Exit → Act → World → Prop) (o : Oper) (K : Act → World → Prop) (a : Act) (w : World) : Prop :=
  if bar o = true then (if Region.wanted o (yielded ops a.tmps) then o.wpIn F n P a w K Q else (∀ f, o.about P w a.eval = some f → F.fn f) ∧ K (a.put o.dst undef) w)
  else ∃ u, YieldsW P ops o u a w ∧ K (a.put o.dst u) w
theorem stepM_mono {o : Oper} {K K' : Act → World → Prop} (h : ∀ a w, K a w → K' a w) {a : Act} {w : World} (hh : stepM F n P ops Q o K a w) : stepM F n P ops Q o K' a w := by
  unfold stepM at *
  split
  · rename_i hb
    rw [if_pos hb] at hh
    split
    · rename_i hw
      rw [if_pos hw] at hh
      exact Oper.wpIn_mono h hh
    · rename_i hw
      rw [if_neg hw] at hh
      exact ⟨hh.1, h _ _ hh.2⟩
  · rename_i hb
    rw [if_neg hb] at hh
    obtain ⟨u, h1, h2⟩ := hh
    exact ⟨u, h1, h _ _ h2⟩
theorem wpOpIn_of_stepM (hro : F.round = none) {i : Nat} {o : Oper} (hi : ops[i]? = some o) {K : Act → World → Prop} {a : Act} {w : World} (hh : stepM F n P ops Q o K a w) : wpOpIn F n P ops Q i K a w := by
  unfold wpOpIn
  simp only [hi]
  unfold stepM at hh
  by_cases hb : bar o = true
  · rw [if_pos hb] at hh
    exact hh
  · rw [if_neg hb] at hh
    obtain ⟨u, hy, hk⟩ := hh
    have hab : ∀ f, o.about P w a.eval = some f → F.fn f := fun f hf => by rw [about_bar (by simpa using hb)] at hf; cases hf
    rcases hy with ⟨hw, hv⟩ | ⟨hw, rfl⟩
    · simp only [hw, if_true, Oper.wpIn, hro, Oper.semAt_none, hv, Oper.uponIn]; exact ⟨hab, hk⟩
    · simp only [hw, Bool.false_eq_true, if_false]; exact ⟨hab, hk⟩
/-- Every order, step by step. -/
def wpAnyM (F : Fence) (n : Nat) (P : Program) (ops : Array Oper) (Q : Exit → Act → World → Prop) : Nat → Array Bool → Act → World → Prop
  | 0, listed, a, w => Region.ready .any ops listed = [] ∧ Q .normal a w
  | fuel + 1, listed, a, w => (Region.ready .any ops listed = [] → Q .normal a w) ∧
    ∀ i ∈ Region.ready .any ops listed, ∀ o, ops[i]? = some o → stepM F n P ops Q o (wpAnyM F n P ops Q fuel (listed.setIfInBounds i true)) a w
theorem wpAnyIn_of_M (hro : F.round = none) : ∀ (fuel : Nat) (listed : Array Bool) (a : Act) (w : World), wpAnyM F n P ops Q fuel listed a w → wpAnyIn F n P .any ops Q fuel listed a w
  | 0, _, _, _, h => h
  | fuel + 1, listed, a, w, h => ⟨h.1, fun i hi => by
    obtain ⟨_, o, ho, _⟩ := mem_ready.1 hi
    exact wpOpIn_of_stepM hro ho (stepM_mono (fun a w h => wpAnyIn_of_M hro fuel _ a w h) (h.2 i hi o ho))⟩
/-- j waits for i, directly or through others. -/
def waits (ops : Array Oper) : Nat → Nat → Nat → Bool
  | 0, _, _ => false
  | f + 1, j, i => match ops[j]? with
    | none => false
    | some o => o.after.any fun e => Region.binds .any e && (e.on == i || waits ops f e.on i)
def Closed (ops : Array Oper) (listed : Array Bool) : Prop := ∀ j, listed.getD j false = true → ∀ o, ops[j]? = some o → ∀ e ∈ o.after, Region.binds .any e = true → listed.getD e.on false = true
theorem waits_listed {listed : Array Bool} (hc : Closed ops listed) : ∀ (f j i : Nat), listed.getD j false = true → waits ops f j i = true → listed.getD i false = true
  | 0, _, _, _, h => by cases h
  | f + 1, j, i, hj, h => by
    unfold waits at h
    split at h
    · cases h
    · rename_i o ho
      obtain ⟨e, he, hb⟩ := Array.any_eq_true'.1 h
      simp only [Bool.and_eq_true, Bool.or_eq_true, beq_iff_eq] at hb
      have h1 := hc j hj o ho e he hb.1
      rcases hb.2 with rfl | hw
      · exact h1
      · exact waits_listed hc f e.on i h1 hw
theorem waits_ready {listed : Array Bool} (hc : Closed ops listed) {j : Nat} (hr : j ∈ Region.ready .any ops listed) : ∀ (f i : Nat), waits ops f j i = true → listed.getD i false = true
  | 0, _, h => by cases h
  | f + 1, i, h => by
    obtain ⟨_, o, ho, hall⟩ := mem_ready.1 hr
    unfold waits at h
    simp only [ho] at h
    obtain ⟨e, he, hb⟩ := Array.any_eq_true'.1 h
    simp only [Bool.and_eq_true, Bool.or_eq_true, beq_iff_eq] at hb
    have h1 := hall e he hb.1
    rcases hb.2 with rfl | hw
    · exact h1
    · exact waits_listed hc f e.on i h1 hw
theorem getD_set_cases {listed : Array Bool} {i j : Nat} (h : (listed.setIfInBounds i true).getD j false = true) : j = i ∨ listed.getD j false = true := by
  by_cases hij : i = j
  · exact .inl hij.symm
  · rw [getD_set_ne false hij] at h
    exact .inr h
theorem Closed.set {listed : Array Bool} (hc : Closed ops listed) {i : Nat} (hr : i ∈ Region.ready .any ops listed) : Closed ops (listed.setIfInBounds i true) := fun j hj o ho e he hb => by
  rcases getD_set_cases hj with rfl | hj
  · obtain ⟨_, o', ho', hall⟩ := mem_ready.1 hr
    rw [ho] at ho'
    cases ho'
    exact getD_set_true (hall e he hb)
  · exact getD_set_true (hc j hj o ho e he hb)
theorem unlisted {listed : Array Bool} {i : Nat} (h : listed.getD i true = false) : listed.getD i false = false := by
  rcases Nat.lt_or_ge i listed.size with h' | h'
  · simp [h'] at h ⊢; exact h
  · simp [Array.getElem?_eq_none h'] at h
theorem first_still {i : Nat} {oi : Oper} {v : Value} {f : Nat} (hi : ops[i]? = some oi) (hbi : bar oi = false) (hsel : ∀ (j : Nat) (o : Oper) cs b, ops[j]? = some o → o.op ≠ .select cs b)
    (hst : ∀ j oj, ops[j]? = some oj → j ≠ i → waits ops f j i = true ∨ waits ops f i j = true ∨ (bar oj = false ∧ oi.apart ops oj = true)) (w : World) :
    ∀ (fuel : Nat) (listed : Array Bool) (a : Act), Closed ops listed → i ∈ Region.ready .any ops listed → YieldsW P ops oi v a w →
      wpAnyM F n P ops Q fuel (listed.setIfInBounds i true) (a.put oi.dst v) w → wpAnyM F n P ops Q (fuel + 1) listed a w := by
  intro fuel
  have own : ∀ (fuel : Nat) (listed : Array Bool) (a : Act), YieldsW P ops oi v a w → wpAnyM F n P ops Q fuel (listed.setIfInBounds i true) (a.put oi.dst v) w → stepM F n P ops Q oi (wpAnyM F n P ops Q fuel (listed.setIfInBounds i true)) a w := fun fuel listed a hy H => by
    unfold stepM
    rw [if_neg (by rw [hbi]; simp)]
    exact ⟨v, hy, H⟩
  induction fuel with
  | zero =>
    intro listed a _ hr hy H
    refine ⟨fun h => (by rw [h] at hr; cases hr), fun j hj o ho => ?_⟩
    by_cases hji : j = i
    · subst hji
      rw [hi] at ho
      cases ho
      exact own _ _ _ hy H
    · have := ready_mono hj hji
      rw [H.1] at this
      cases this
  | succ fuel ih =>
    intro listed a hc hr hy H
    refine ⟨fun h => (by rw [h] at hr; cases hr), fun j hj oj hoj => ?_⟩
    by_cases hji : j = i
    · subst hji
      rw [hi] at hoj
      cases hoj
      exact own _ _ _ hy H
    · have h1 := H.2 j (ready_mono hj hji) oj hoj
      have hun := unlisted (mem_ready.1 hr).1
      have hunj := unlisted (mem_ready.1 hj).1
      rcases hst j oj hoj hji with hw | hw | ⟨hbj, hap⟩
      · have := waits_ready hc hj f i hw
        rw [hun] at this
        cases this
      · have := waits_ready hc hr f j hw
        rw [hunj] at this
        cases this
      · obtain ⟨a1, a2, a3⟩ := Oper.apart_spec hap
        unfold stepM at h1 ⊢
        rw [if_neg (by rw [hbj]; simp)] at h1 ⊢
        obtain ⟨u, hyj, hk⟩ := h1
        refine ⟨u, hyj.of_same (execOp_put oj (fun cs b => hsel j oj cs b hoj) a oi.dst v a1).symm (wanted_put oj a oi.dst v a1).symm, ?_⟩
        refine ih (listed.setIfInBounds j true) (a.put oj.dst u) (hc.set hj) (ready_mono hr (Ne.symm hji)) (hy.of_same (execOp_put oi (fun cs b => hsel i oi cs b hi) a oj.dst u a3) (wanted_put oi a oj.dst u a3)) ?_
        rw [Array.setIfInBounds_comm _ _ hji, ← Act.put_comm a v u a2]
        exact hk
/-- The walk of the order of the text. -/
def wpLexM (F : Fence) (n : Nat) (P : Program) (ops : Array Oper) (Q : Exit → Act → World → Prop) : List Oper → Act → World → Prop
  | [], a, w => Q .normal a w
  | o :: rest, a, w => stepM F n P ops Q o (wpLexM F n P ops Q rest) a w
/-- The order of the text is one of the orders; a call waits for all ahead of it, and all behind wait for it; what is no call is apart from its neighbours. -/
def parted (ops : Array Oper) : Bool :=
  Region.noSelect ops && (List.range ops.size).all fun i => match ops[i]? with
    | none => true
    | some oi => (oi.after.all fun e => !Region.binds .any e || decide (e.on < i)) && (List.range ops.size).all fun j => j == i || match ops[j]? with
      | none => true
      | some oj => (!bar oi && !bar oj && oi.apart ops oj) || if j < i then waits ops ops.size i j else waits ops ops.size j i
theorem parted_spec (h : parted ops = true) (i : Nat) (oi : Oper) (hi : ops[i]? = some oi) : (∀ e ∈ oi.after, Region.binds .any e = true → e.on < i) ∧ ∀ j oj, ops[j]? = some oj → j ≠ i → waits ops ops.size j i = true ∨ waits ops ops.size i j = true ∨ (bar oi = false ∧ bar oj = false ∧ oi.apart ops oj = true) := by
  unfold parted at h
  rw [Bool.and_eq_true, List.all_eq_true] at h
  have h1 := h.2 i (List.mem_range.2 (Array.getElem?_eq_some_iff.1 hi).1)
  simp only [hi, Bool.and_eq_true] at h1
  obtain ⟨h1, h2⟩ := h1
  refine ⟨fun e he hb => ?_, fun j oj hj hne => ?_⟩
  · have := Array.all_eq_true_iff_forall_mem.1 h1 e he
    simpa [hb] using this
  · have := List.all_eq_true.1 h2 j (List.mem_range.2 (Array.getElem?_eq_some_iff.1 hj).1)
    simp only [hj, Bool.or_eq_true, beq_iff_eq, hne, false_or, Bool.and_eq_true, Bool.not_eq_true'] at this
    rcases this with h | h
    · exact .inr (.inr ⟨h.1.1, h.1.2, h.2⟩)
    · split at h
      · exact .inr (.inl h)
      · exact .inl h
theorem anyM_of_lex (hB : parted ops = true) : ∀ (l : List Oper) (k : Nat) (listed : Array Bool) (a : Act) (w : World), (∀ j, l[j]? = ops[k + j]?) → Closed ops listed → (∀ j, j < k → listed.getD j false = true) → (∀ j, k ≤ j → j < ops.size → listed.getD j true = false) →
    wpLexM F n P ops Q l a w → wpAnyM F n P ops Q l.length listed a w
  | [], k, listed, a, w, hl, _, h1, _, h => by
    refine ⟨?_, h⟩
    have hk : ops.size ≤ k := by
      have := hl 0
      simp only [List.getElem?_nil, Nat.add_zero] at this
      exact Array.getElem?_eq_none_iff.1 this.symm
    refine List.eq_nil_iff_forall_not_mem.2 fun j hj => ?_
    obtain ⟨h2, o, ho, _⟩ := mem_ready.1 hj
    have h3 := h1 j (Nat.lt_of_lt_of_le (Array.getElem?_eq_some_iff.1 ho).1 hk)
    rw [unlisted h2] at h3
    cases h3
  | o :: l, k, listed, a, w, hl, hc, h1, h2, h => by
    have h0 : ops[k]? = some o := by simpa using (hl 0).symm
    have hks := (Array.getElem?_eq_some_iff.1 h0).1
    obtain ⟨hb1, hb2⟩ := parted_spec hB k o h0
    have hr : k ∈ Region.ready .any ops listed := mem_ready.2 ⟨h2 k (Nat.le_refl _) hks, o, h0, fun e he hb => h1 _ (hb1 e he hb)⟩
    have hset : ∀ j, j < k + 1 → (listed.setIfInBounds k true).getD j false = true := fun j hj => by
      by_cases hjk : j = k
      · subst hjk
        have hlt : j < listed.size := by
          rcases Nat.lt_or_ge j listed.size with h' | h'
          · exact h'
          · have := h2 j (Nat.le_refl _) hks
            simp [Array.getElem?_eq_none h'] at this
        simp [hlt]
      · exact getD_set_true (h1 j (by omega))
    have hset2 : ∀ j, k + 1 ≤ j → j < ops.size → (listed.setIfInBounds k true).getD j true = false := fun j hj hs => by
      rw [getD_set_ne true (by omega)]
      exact h2 j (by omega) hs
    have rec_ : ∀ a w, wpLexM F n P ops Q l a w → wpAnyM F n P ops Q l.length (listed.setIfInBounds k true) a w := fun a w h =>
      anyM_of_lex hB l (k + 1) _ a w (fun j => by have := hl (j + 1); simpa [Nat.add_assoc, Nat.add_comm 1 j] using this) (hc.set hr) hset hset2 h
    have hsel := Region.noSelect_spec (ops := ops) (by unfold parted at hB; rw [Bool.and_eq_true] at hB; exact hB.1)
    unfold wpLexM at h
    by_cases hbar : bar o = true
    · refine ⟨fun h' => (by rw [h'] at hr; cases hr), fun j hj oj hoj => ?_⟩
      obtain rfl : j = k := by
        by_cases hjk : j = k
        · exact hjk
        · rcases hb2 j oj hoj hjk with hw | hw | hw
          · have := waits_ready hc hj _ _ hw
            rw [unlisted (h2 k (Nat.le_refl _) hks)] at this
            cases this
          · have := waits_ready hc hr _ _ hw
            rw [unlisted (mem_ready.1 hj).1] at this
            cases this
          · rw [hbar] at hw
            cases hw.1
      rw [h0] at hoj
      cases hoj
      exact stepM_mono rec_ h
    · have hbf : bar o = false := by simpa using hbar
      unfold stepM at h
      rw [if_neg hbar] at h
      obtain ⟨u, hy, hk⟩ := h
      exact first_still h0 hbf hsel (fun j oj hj hne => by
        rcases hb2 j oj hj hne with h | h | h
        · exact .inl h
        · exact .inr (.inl h)
        · exact .inr (.inr h.2)) w l.length listed a hc hr hy (rec_ _ _ hk)
theorem region_lex {id : Nat} {a : Act} {w : World} {l : List Oper} (hro : F.round = none) (hm : P.follows .mixedOrders = true) (hB : parted l.toArray = true) (h : wpLexM F n P l.toArray Q l a w.drew) : (Code.region id l.toArray true).wpIn F n P Q a w := by
  refine wpIn_region_any hm (wpAnyIn_of_M hro _ _ _ _ ?_)
  have := anyM_of_lex hB l 0 (Array.replicate l.toArray.size false) a w.drew (by simp) (fun j hj => by simp [Array.getElem?_replicate] at hj; split at hj <;> cases hj) (fun j hj => by omega) (fun j _ hj => by simp [Array.getElem?_replicate] at hj ⊢; simp [hj]) h
  simpa using this
theorem lex_nil {a : Act} {w : World} (h : Q .normal a w) : wpLexM F n P ops Q [] a w := h
/-- A step that yields. -/
theorem lex_yield {rest : List Oper} {o : Oper} {a : Act} {w : World} (v : Value) (hb : bar o = false) (hw : Region.wanted o (yielded ops a.tmps) = true) (hv : (execOp a.eval o).run P w = .ok (.value v) w) (h : wpLexM F n P ops Q rest (a.put o.dst v) w) : wpLexM F n P ops Q (o :: rest) a w := by
  unfold wpLexM stepM
  rw [if_neg (by rw [hb]; simp)]
  exact ⟨v, .inl ⟨hw, hv⟩, h⟩
/-- A step that is passed over. -/
theorem lex_skip {rest : List Oper} {o : Oper} {a : Act} {w : World} (hb : bar o = false) (hw : Region.wanted o (yielded ops a.tmps) = false) (h : wpLexM F n P ops Q rest (a.put o.dst undef) w) : wpLexM F n P ops Q (o :: rest) a w := by
  unfold wpLexM stepM
  rw [if_neg (by rw [hb]; simp)]
  exact ⟨undef, .inr ⟨hw, rfl⟩, h⟩
/-- A call. -/
theorem lex_call {rest : List Oper} {o : Oper} {a : Act} {w : World} (hb : bar o = true) (hw : Region.wanted o (yielded ops a.tmps) = true) (h : ∀ K : Act → World → Prop, (∀ a w, wpLexM F n P ops Q rest a w → K a w) → o.wpIn F n P a w K Q) : wpLexM F n P ops Q (o :: rest) a w := by
  unfold wpLexM stepM
  rw [if_pos hb, if_pos hw]
  exact h _ fun _ _ h => h
/-- A call that is passed over. -/
theorem lex_call_skip {rest : List Oper} {o : Oper} {a : Act} {w : World} (hb : bar o = true) (hw : Region.wanted o (yielded ops a.tmps) = false) (hF : ∀ f, F.fn f) (h : wpLexM F n P ops Q rest (a.put o.dst undef) w) : wpLexM F n P ops Q (o :: rest) a w := by
  unfold wpLexM stepM
  rw [if_pos hb, if_neg (by rw [hw]; simp)]
  exact ⟨fun f _ => hF f, h⟩
end Go.Proofs.Ytiffjjophmgdlaa
