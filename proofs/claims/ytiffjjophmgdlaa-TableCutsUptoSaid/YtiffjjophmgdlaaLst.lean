/-
  Layer 11: Rows.
-/
import Derived.Test.YtiffjjophmgdlaaFrom
import Derived.Maps.AppendAt
namespace Go.Proofs.Ytiffjjophmgdlaa
open Go.RowKit Tb
attribute [local go_sem] Oper.semAt_some

theorem Elt.wpListIn_app {P : Program} {α : Type} (E : Elt P α) {F : Fence} {nn : Nat} {ops : Array Oper} {rest : List Oper} {o : Oper} {a : Act} {Q : Exit → Act → World → Prop} (hgd : o.guard = none) (s x : Operand)
    (ho : o.op = .call { callee := .builtin .append, args := #[s, x], argTypes := #[E.t, E.t] })
    (B : Nat) (v : Value) (l m : List α) (W : World) (cs : Array Value) (hs : a.eval s = v) (hown : E.Own W B v l) (g n : Nat) (hx : a.eval x = .slice (some ⟨g, 0, none⟩) n n) (hn : m.length = n) (hgW : g = W.heap.size)
    (hcs : cs.toList = m.flatMap E.cs) (hlen : l.length + m.length ≤ 274877906944) (hB : B ≤ W.heap.size)
    (h : ∀ ad' n' c' w1, Hid (E.Apd W B v (l ++ m) (.slice ad' n' c') w1) → wpListIn F nn P ops Q rest (a.put o.dst (.slice ad' n' c')) w1) : wpListIn F nn P ops Q (o :: rest) a (W.alloc (.cells cs E.e)) := by
  subst hgW
  obtain ⟨ad', n', c', w1, hr, h1⟩ := E.run_app (W.alloc (.cells cs E.e)) B o.type v l m (hown.alloc _) ⟨W.heap.size, 0, none⟩ n n hn
    (fun j u hj => by have := cells_new W (m.flatMap E.cs) E.e j u hj; rw [← hcs] at this; simpa using this) hlen (by simp; omega)
  have h2 : E.Apd W B v (l ++ m) (.slice ad' n' c') w1 :=
    ⟨h1.own, ((Upd.refl (fun k => v.ownBlock = some k) W).alloc _).trans h1.upd (fun _ _ h => h) (fun _ _ h => h), fun k hk => (h1.lies k hk).imp id (fun h => by simp at h; omega)⟩
  refine wpListIn_plain hgd fun K hK => ?_
  unfold Oper.wpIn
  refine ⟨?_, ?_⟩
  · simp [Oper.about, ho, resolve, Target.leads, Sem.run_pure]
  · rw [Oper.semAt_plain F _ _ (by rw [ho]; intro c hc'; cases hc')]
    simp [execOp, ho, resolve, invoke, builtin, hs, hx, hr, Result.andThen]
    exact hK _ _ (h ad' n' c' w1 h2)
theorem blk_own {β : Type} (B : Nat) (t : TypeId) (cs : β → Array Value) : Own (fun s W => Blk W B t (cs s)) := fun s X Y row hs hg hrow =>
  (hg.block B hs.lt (fun e' => by obtain ⟨o, ho, hc⟩ := hrow B e'.symm; rw [show X.heap[B]? = _ from hs] at ho; cases ho; cases hc)).trans hs
theorem own_own {P : Program} {α β : Type} (E : Elt P α) (B : Nat) (v : β → Value) (l : β → List α) : Own (fun s W => E.Own W B (v s) (l s)) := fun s X Y row hs hg hrow =>
  hs.same fun k hk => hg.block k (hs.lt k hk).2 (fun e' => by
    obtain ⟨o, ho, hc⟩ := hrow k e'.symm
    obtain ⟨cur, hb⟩ := hs.blk hk
    rw [show X.heap[k]? = _ from hb] at ho; cases ho; cases hc)
theorem Elt.Apd.keeps {P : Program} {α : Type} {E : Elt P α} {W w1 : World} {B : Nat} {v v' : Value} {l l' : List α} (h : E.Apd W B v l' v' w1) (hv : E.Own W B v l) : KeepsOthers W w1 :=
  ⟨h.upd.size, fun k o hk hc => (h.upd.block k (Nat.lt_of_not_le fun h' => by rw [Array.getElem?_eq_none h'] at hk; cases hk) (fun e => by
    obtain ⟨cur, hb⟩ := hv.blk e
    rw [show W.heap[k]? = _ from hb] at hk; cases hk; cases hc)).trans hk⟩
/-- An empty list with room. -/
def mkR (m : Nat) : Obj := .cells (madeCells #[.string ⟨#[]⟩, .string ⟨#[]⟩] (m * 2)) 25
theorem run_mkR (m : Nat) (hm : m ≤ 20001) (W : World) : (Instr.makeSlice 22 (.int .i64 0) (.int .i64 (m : Int))).run Try.prog W = .ok (.slice (some ⟨W.heap.size, 0, none⟩) 0 m) (W.alloc (mkR m)) := by
  obtain ⟨i0, hi, hz0, hz1, hz2⟩ := info_parts (show (Try.prog.info? 25).map (fun i => (i.zero, i.size, i.bytes)) = some (some (.agg #[.string ⟨#[]⟩, .string ⟨#[]⟩]), 2, 32) by kernel_rfl)
  have := run_make (P := Try.prog) W 22 25 i0 (.agg #[.string ⟨#[]⟩, .string ⟨#[]⟩]) Try.underlying22 hi hz0 .i64 .i64 0 (m : Int) (by omega) (by omega) (by rw [hz2]; omega) (by omega)
  rw [hz1] at this
  simpa [mkR, Value.cells] using this
theorem own_mkR (W : World) (m B : Nat) (hm : m ≤ 20001) (hB : B ≤ W.heap.size) : ER.Own (W.alloc (mkR m)) B (.slice (some ⟨W.heap.size, 0, none⟩) 0 m) [] :=
  World.ownsRow_made W _ m hB (by unfold maxLen; omega) (by rw [size_madeCells]; rfl)
/-- Where the body of Rows stands. -/
def rwI (w : World) (pre : List Rw) (W : World) : Prop := (∃ ad n cap, Blk W (w.heap.size + 1) 22 #[.slice ad n cap] ∧ ER.Own W w.heap.size (.slice ad n cap) pre) ∧ Below w.heap.size w W
theorem rwI_own (w : World) (B : Nat) (hB : w.heap.size ≤ B) : OwnFrom B (rwI w) :=
  OwnFrom.and (Own.from (fun s X Y row hs hg hr => by
    obtain ⟨ad, n, cap, h1, h2⟩ := hs
    exact ⟨ad, n, cap, blk_own _ _ (fun _ : Unit => _) () X Y row h1 hg hr, own_own ER w.heap.size (fun _ : Unit => .slice ad n cap) (fun _ => s) () X Y row h2 hg hr⟩) _) (ownFrom_below (Nat.le_refl _) hB)
set_option maxRecDepth 100000 in
set_option maxHeartbeats 8000000 in
theorem rows_any (b : Nat) (t : Tr) (w : World) (h : TblAt w b t) (hc : t.cnt ≤ 20001) :
    Calls Try.prog 9 #[.pointer (some ⟨b, 0, none⟩)] w fun e w' => ∃ ad n cap, e = .returned (.slice ad n cap) ∧ t.ino.length = n ∧ n ≤ cap ∧ ER.Own w' w.heap.size (.slice ad n cap) t.ino ∧ Below w.heap.size w w' := by
  refine (callsIn_wide (n := 3)).1 ?_
  have hmo : Try.prog.follows .mixedOrders = true := by kernel_rfl
  have hg : Fence.wide.fn 22 := trivial
  have hro : Fence.wide.round = none := rfl
  have HN := Lib.hid h
  have HL := Lib.hid hc
  obtain ⟨p, ht1, ht2⟩ := h.at_
  have HT1 := Lib.hid ht1
  have HT2 := Lib.hid ht2
  have hnf : ∀ (f : Fn) (a b : Array Value) (W : World), (binOp .eql 38 (.func f a b) .nilFunc).run Try.prog W = .ok (.bool false) W := fun f a b W => by kernel_rfl
  clear h hc ht1 ht2
  refine callsIn_of_wp_marks Try.func9 rfl trivial ?_ hro
  simp only [Try.ntmps9, List.size_toArray, List.length_cons, List.length_nil, Nat.reduceAdd, Nat.reduceSub, Array.replicate_succ, Array.replicate_zero, List.push_toArray, List.append_toArray, List.nil_append, List.cons_append]
  have hmk := run_mkR t.cnt HL.out
  have ho1 := Lib.hid (own_mkR w t.cnt w.heap.size HL.out (Nat.le_refl _))
  have hmb := HL.out
  gi_wp2_with fail
  refine ⟨trivial, ?_⟩
  refine (callsIn_wide.2 (len_tbl b t w HN.out)).mono ?_
  rintro e w' ⟨rfl, rfl⟩
  gi_wp2_with fail
  refine ⟨trivial, ?_⟩
  have hb0 := Lib.hid (((Below.refl w.heap.size w).alloc (Nat.le_refl _) (mkR t.cnt)).alloc (by simp) (.cells #[.slice (some ⟨w.heap.size, 0, none⟩) 0 t.cnt] 22))
  have hbx := Lib.hid (Blk.new (w.alloc (mkR t.cnt)) #[.slice (some ⟨w.heap.size, 0, none⟩) 0 t.cnt] 22)
  refine (callsIn_wide.2 (from_any b p (bts t.ino : Int) ⟨#[]⟩ _ ((HT1.out.alloc _).alloc _))).mono ?_
  rintro e w1 ⟨x, y, rfl, hx, hy, hI1, hI2, hb⟩
  have HB1 := Lib.hid (hb0.out.trans (hb.mono (by simp; omega)))
  have HX := Lib.hid (hbx.out.below hb hbx.out.lt)
  have HO := Lib.hid ((ho1.out.alloc (.cells #[.slice (some ⟨w.heap.size, 0, none⟩) 0 t.cnt] 22)).below hb (Nat.le_refl _))
  have HI1 := Lib.hid hI1
  have HI2 := Lib.hid hI2
  rw [World.size_alloc] at HX
  clear hb0 hbx ho1 hI1 hI2 hb hx hy hmk
  gi_wp2_with fail
  have h1w : w.heap.size + 1 < w1.heap.size := HX.out.lt
  have b0 : Hid (rwI w [] w1) := Lib.hid ⟨⟨_, _, _, HX.out, HO.out⟩, HB1.out⟩
  have hnl : Hid (t.ino.length ≤ 20001) := by rw [← cnt_eq]; exact HL
  have hst := from_stops (3 - 1) (by omega) x y p t ⟨#[]⟩ w w1 HI1.out HI2.out HT2.out HB1.out
  rw [ris_nil] at hst
  refine wpIn_rangeFunc_ownH hro (by omega) (gf := 22) (lb := #[.pointer (some ⟨x, 0, none⟩), .pointer (some ⟨y, 0, none⟩)]) rfl hg (enters_of Try.func22 (by kernel_rfl) rfl)
    hst belowK_t (belowK_b HB1.out.size) (Below.refl _ _) (fun _ => rfl)
    (rwI w) (fun c pre _ => False) (rwI_own w _ HB1.out.size) (fun c => Own.from (fun _ _ _ _ hs _ _ => hs) _) b0.out
    (fun z a' _ => a' = { tmps := #[.pointer (some ⟨b, 0, none⟩), undef, .slice none 0 0, .pointer (some ⟨w.heap.size + 1, 0, none⟩), .string z.1, .string z.2, .pointer (some ⟨b, 0, none⟩), .int .i64 (t.cnt : Int), .slice (some ⟨w.heap.size, 0, none⟩) 0 t.cnt, .pointer (some ⟨b, 0, none⟩),
      .func (.func 22) #[] #[.pointer (some ⟨x, 0, none⟩), .pointer (some ⟨y, 0, none⟩)], .string z.1, .string z.2, undef, undef, undef, undef, undef, undef, undef], defers := [] }) (fun y a' => Own.from (fun _ _ _ _ hs _ _ => hs) _) ?assign ?body ?done ?stop
  case assign =>
    rintro l' pre z W K hI hK
    have HK := Lib.hid hK
    have HI := Lib.hid hI
    clear hK hI
    dsimp only [encR]
    gi_wp2
    exact HK.out _ _ ((KeepsOthers.refl _).from _) (Below.refl _ _) HI.out rfl
  case body =>
    rintro l' pre ⟨zk, zv⟩ a' W hl hr ⟨⟨vad, vn, vcap, i1, i2⟩, hB⟩ rfl hlt
    have d5 : W.cell? ⟨w.heap.size + 1, 0, none⟩ = some (.slice vad vn vcap) := i1.at_ 0
    have f5 := i1.free 0
    have HI1' := Lib.hid i1
    have HI2' := Lib.hid i2
    have HB := Lib.hid hB
    have hvl := i2.len_eq.1
    subst hvl
    have hlb : Hid (pre.length + 1 ≤ 274877906944) := Lib.hid (by have := hnl.out; omega)
    clear hl hr i1 i2 hB hlt
    gi_wp2_with (gi_at_builtin; refine ER.wpListIn_app rfl _ _ (by rfl) w.heap.size _ _ [(zk, zv)] W _ (by rfl) HI2'.out _ 1 (by rfl) (by rfl) (by rfl) (by rfl) hlb.out HB.out.size ?_; intro ad9 n9 c9 w9 h9; have g9 := h9.out.upd.blk HI1'.out (HI2'.out.apart HI1'.out (by decide)); have d9 := g9.at_ 0; have f9 := g9.free 0)
    refine ⟨?_, ?_, ⟨ad9, n9, c9, ?_, ?_⟩, ?_⟩
    · exact ((h9.out.keeps HI2'.out).trans (KeepsOthers.setCell _ _ _)).from _
    · exact (h9.out.upd.below w.heap.size HB.out.size (fun k hk => (HI2'.out.lt k hk).1)).setCell (Nat.le_succ _) _
    · exact g9.set _
    · exact h9.out.own.same fun g hg => Below.heap_setCell _ _ _ _ (fun e => by subst e; exact h9.out.own.apart g9 (by decide) hg)
    · exact (h9.out.below HI2'.out HB.out HB.out.size).setCell (Nat.le_succ _) _
  case done =>
    rintro D ys W hD rfl ⟨⟨vad, vn, vcap, i1, i2⟩, hB⟩ hK
    have hvl := i2.len_eq
    have d5 : W.cell? ⟨w.heap.size + 1, 0, none⟩ = some (.slice vad vn vcap) := i1.at_ 0
    have HI1' := Lib.hid i1
    have HI2' := Lib.hid i2
    have HB := Lib.hid hB
    have HVL := Lib.hid hvl
    have HKK := Lib.hid hK
    have HD := Lib.hid hD
    clear i1 i2 hB hvl hK hD
    gi_wp2
    refine ⟨by simp, .inl ⟨_, _, rfl, run_takeDeferred HKK.out, ?_⟩⟩
    refine ⟨.slice vad vn vcap, ?_, vad, vn, vcap, rfl, HVL.out.1, HVL.out.2, ?_, ?_⟩
    · simp [results, Try.f9, go_sem]
    · exact own_own ER w.heap.size (fun _ : Unit => _) (fun _ => t.ino) () W _ _ HI2'.out (grownBy_putObj' _ D (.deferred none)) (fun r e => by cases e; exact ⟨_, HKK.out, rfl⟩)
    · exact HB.out.trans (belowK_b (w := w) (Nat.le_refl _) _ D _ _ (Nat.le_trans HB1.out.size HD.out) HKK.out rfl rfl)
  case stop =>
    rintro D c pre W _ _ h _
    exact h.elim
end Go.Proofs.Ytiffjjophmgdlaa
