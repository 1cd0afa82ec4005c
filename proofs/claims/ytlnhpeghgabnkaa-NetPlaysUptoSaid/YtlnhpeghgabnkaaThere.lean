/-
  Layer 25: there: what All tells, gathered.
-/
import Derived.Test.YtlnhpeghgabnkaaCount
import Derived.Test.YtlnhpeghgabnkaaWalked
import Derived.ControlIn
namespace Go.Proofs.Ytlnhpeghgabnkaa
open Go.RowKit
attribute [local go_sem] Oper.semAt_some

theorem Elt.wpListIn_app {P : Program} {α : Type} (E : Elt P α) {F : Fence} {nn : Nat} {ops : Array Oper} {rest : List Oper} {o : Oper} {a : Act} {Q : Exit → Act → World → Prop} (hgd : o.guard = none) (s x : Operand)
    (ho : o.op = .call { callee := .builtin .append, args := #[s, x], argTypes := #[E.t, E.t] })
    (B : Nat) (v : Value) (l m : List α) (W : World) (cs : Array Value) (hs : a.eval s = v) (hown : E.Own W B v l) (g n : Nat) (hx : a.eval x = .slice (some ⟨g, 0, none⟩) n n) (hn : m.length = n) (hgW : g = W.heap.size)
    (hcs : cs.toList = m.flatMap E.cs) (hlen : l.length + m.length ≤ 274877906944) (hB : B ≤ W.heap.size)
    (h : ∀ ad' n' c' w1, Hid (E.Apd W B v (l ++ m) (.slice ad' n' c') w1) → wpListIn F nn P ops Q rest (a.put o.dst (.slice ad' n' c')) w1) : wpListIn F nn P ops Q (o :: rest) a (W.alloc (.cells cs E.e)) := by
  subst hgW
  obtain ⟨ad', n', c', w1, hr, h1⟩ := E.run_app (W.alloc (.cells cs E.e)) B o.type v l m (hown.alloc _) ⟨W.heap.size, 0, none⟩ n n hn
    (fun j u hj => by have := cells_new W (m.flatMap E.cs) E.e j u hj; rw [← hcs] at this; simpa using this) hlen (by simp; omega)
  have h2 : E.Apd W B v (l ++ m) (.slice ad' n' c') w1 :=
    ⟨h1.own, ((Upd.refl (fun k => v.ownBlock = some k) W).alloc _).trans h1.upd (fun _ _ h => h) (fun _ _ h => h), fun k hk => (h1.lies k hk).imp id (fun h => by simp at h; omega)⟩
  refine wpListIn_plain hgd fun K hK => ?_
  unfold Oper.wpIn
  refine ⟨?_, ?_⟩
  · simp [Oper.about, ho, resolve, Target.leads, Sem.run_pure]
  · rw [Oper.semAt_plain F _ _ (by rw [ho]; intro c hc'; cases hc')]
    simp [execOp, ho, resolve, invoke, builtin, hs, hx, hr, Result.andThen]
    exact hK _ _ (h ad' n' c' w1 h2)
theorem own_own {P : Program} {α β : Type} (E : Elt P α) (B : Nat) (v : β → Value) (l : β → List α) : Own (fun s W => E.Own W B (v s) (l s)) := fun s X Y row hs hg hrow =>
  hs.same fun k hk => hg.block k (hs.lt k hk).2 (fun e' => by
    obtain ⟨o, ho, hc⟩ := hrow k e'.symm
    obtain ⟨cur, hb⟩ := hs.blk hk
    rw [show X.heap[k]? = _ from hb] at ho; cases ho; cases hc)
theorem Elt.Apd.keeps {P : Program} {α : Type} {E : Elt P α} {W w1 : World} {B : Nat} {v v' : Value} {l l' : List α} (h : E.Apd W B v l' v' w1) (hv : E.Own W B v l) : KeepsOthers W w1 :=
  ⟨h.upd.size, fun k o hk hc => (h.upd.block k (Nat.lt_of_not_le fun h' => by rw [Array.getElem?_eq_none h'] at hk; cases hk) (fun e => by
    obtain ⟨cur, hb⟩ := hv.blk e
    rw [show W.heap[k]? = _ from hb] at hk; cases hk; cases hc)).trans hk⟩
theorem packets_of {ps : List Pk} {ys : List (At ps)} (h : places ys = List.range ps.length) : ys.map (fun x => x.1.2) = ps := by
  have hl : ys.length = ps.length := by
    have := congrArg List.length h
    simpa [places] using this
  refine List.ext_getElem (by simpa using hl) fun i h1 h2 => ?_
  rw [List.getElem_map]
  have hi : i < ys.length := by omega
  have e : (ys[i]).1.1 = i := by
    have := congrArg (fun l : List Nat => l[i]?) h
    simpa [places, List.getElem?_eq_getElem hi, List.getElem?_range h2] using this
  have h3 := (ys[i]).2.out
  rw [e, List.getElem?_eq_getElem h2] at h3
  exact (Option.some.inj h3).symm
/-- Where the body of there stands: the list so far; w0 is the world behind All. -/
def thI (w0 : World) {ps : List Pk} (pre : List (At ps)) (W : World) : Prop :=
  (∃ ad n cap, Blk W w0.heap.size 26 #[.slice ad n cap] ∧ EP.Own W w0.heap.size (.slice ad n cap) (pre.map fun x => x.1.2)) ∧ Below w0.heap.size w0 W
def thX {ps : List Pk} (pre : List (At ps)) : Prop := places pre ≠ List.range pre.length
theorem thI_own (w0 : World) (ps : List Pk) (B : Nat) (hB : w0.heap.size ≤ B) : OwnFrom B (thI w0 (ps := ps)) :=
  OwnFrom.and (Own.from (fun s X Y row hs hg hr => by
    obtain ⟨ad, n, cap, h1, h2⟩ := hs
    exact ⟨ad, n, cap, blk_own _ _ (fun _ : Unit => _) () X Y row h1 hg hr, own_own EP w0.heap.size (fun _ : Unit => .slice ad n cap) (fun _ => s.map fun x => x.1.2) () X Y row h2 hg hr⟩) _) (ownFrom_below (Nat.le_refl _) hB)
/-- What the assign code of there's loop leaves. -/
def thA (w w1 : World) (bn bx : Nat) {ps : List Pk} (y : At ps) (a' : Act) (W : World) : Prop :=
  ∃ Bx, w1.heap.size < Bx ∧ Blk W Bx 40 y.1.2.cs.toArray ∧ a' = { tmps := #[.pointer (some ⟨bn, 0, none⟩), undef, .pointer (some ⟨w.heap.size, 0, none⟩), .pointer (some ⟨w.heap.size + 1, 0, none⟩), .func (.func 29) #[] #[.pointer (some ⟨bx, 0, none⟩)], .pointer (some ⟨w1.heap.size, 0, none⟩), .int .i64 (y.1.1 : Int), .pointer (some ⟨Bx, 0, none⟩),
    .pointer (some ⟨bn, 0, none⟩), .func (.func 29) #[] #[.pointer (some ⟨bx, 0, none⟩)], .func (.func 29) #[] #[.pointer (some ⟨bx, 0, none⟩)], .bool false, .func (.func 29) #[] #[.pointer (some ⟨bx, 0, none⟩)], .int .i64 (y.1.1 : Int), .agg y.1.2.cs.toArray, undef, undef, undef, undef, undef, undef, undef, undef, undef, undef, undef, undef, undef, undef], defers := [] }
set_option maxRecDepth 100000 in
set_option maxHeartbeats 8000000 in
theorem there_any (B bn : Nat) (v : Value) (l : List Pk) (w : World) (h : NetAt w B bn v l) (hlen : l.length ≤ 1073741824) :
    Calls Try.prog 11 #[.pointer (some ⟨bn, 0, none⟩)] w fun e w' => ∃ ad n cap, e = .returned (.tuple #[.slice ad n cap, .bool true]) ∧ l.length = n ∧ n ≤ cap ∧ EP.Own w' w.heap.size (.slice ad n cap) l ∧ Below w.heap.size w w' := by
  refine (callsIn_wide (n := 3)).1 ?_
  obtain ⟨F, hF⟩ : ∃ F, F = Fence.wide := ⟨_, rfl⟩
  have hmo : Try.prog.follows .mixedOrders = true := by kernel_rfl
  have hg : Fence.wide.fn 29 := trivial
  have hro : Fence.wide.round = none := rfl
  have HN := Lib.hid h
  have HL := Lib.hid hlen
  have hnf : ∀ (f : Fn) (a b : Array Value) (W : World), (binOp .eql 51 (.func f a b) .nilFunc).run Try.prog W = .ok (.bool false) W := fun f a b W => by kernel_rfl
  have hb0 := Lib.hid (((Below.refl w.heap.size w).alloc (Nat.le_refl _) (.cells #[.slice none 0 0] 26)).alloc (by simp) (.cells #[.bool false] 4))
  have hb2 := Lib.hid ((Blk.new w #[.slice none 0 0] 26).alloc (.cells #[.bool false] 4))
  have hb3 := Lib.hid (Blk.new (w.alloc (.cells #[.slice none 0 0] 26)) #[.bool false] 4)
  clear h hlen
  refine callsIn_of_wp_marks Try.func11 rfl trivial ?_ hro
  simp only [Try.ntmps11, List.size_toArray, List.length_cons, List.length_nil, Nat.reduceAdd, Nat.reduceSub, Array.replicate_succ, Array.replicate_zero, List.push_toArray, List.append_toArray, List.nil_append, List.cons_append]
  gi_wp2_with fail
  refine ⟨trivial, ?_⟩
  refine (callsIn_wide.2 (all_any B bn v l _ ((HN.out.alloc _).alloc _) HL.out)).mono ?_
  rintro e w1 ⟨x, rfl, hx, hI, hb⟩
  have HI := Lib.hid hI
  have HB1 := Lib.hid (hb0.out.trans (hb.mono (by simp; omega)))
  have HB2 := Lib.hid (hb2.out.below hb hb2.out.lt)
  have HB3 := Lib.hid (hb3.out.below hb hb3.out.lt)
  clear hx hI hb hb0 hb2 hb3
  gi_wp2_with fail
  have hW0b := Lib.hid (Blk.new w1 #[.slice none 0 0] 26)
  have hW0B := Lib.hid ((Below.refl w1.heap.size w1).alloc (Nat.le_refl _) (.cells #[.slice none 0 0] 26))
  obtain ⟨W0, hW0⟩ : ∃ W0, Hid (w1.alloc (.cells #[.slice none 0 0] 26) = W0) := ⟨_, Lib.hid rfl⟩
  rw [hW0.out] at hW0b hW0B ⊢
  have h1w : w.heap.size + 1 < w1.heap.size := by have := HB3.out.lt; simpa using this
  have b0 : Hid (thI w1 (ps := l) [] W0) := Lib.hid ⟨⟨none, 0, 0, hW0b.out, Elt.Own.nil _ _ _⟩, hW0B.out⟩
  refine wpIn_rangeFunc_ownH hro (by omega) (gf := 29) (lb := #[.pointer (some ⟨x, 0, none⟩)]) rfl hg (enters_of Try.func29 (by kernel_rfl) rfl)
    (all_stops Fence.wide (3 - 1) hg hro (by omega) x w1.heap.size l HL.out w1 W0 HI.out b0.out.2 rfl) belowK_t (belowK_b b0.out.2.size) (Below.refl _ _) (fun _ => rfl)
    (thI w1) (fun c pre _ => c = .ret ∧ thX pre) (thI_own w1 l _ b0.out.2.size) (fun c => Own.from (fun _ _ _ _ hs _ _ => hs) _) b0.out
    (thA w w1 bn x) (fun y a' => Own.from (fun _ X Y row hs hg hr => by obtain ⟨Bx, q1, q2, q3⟩ := hs; exact ⟨Bx, q1, (blk_own Bx _ (fun _ : Unit => _)) () X Y row q2 hg hr, q3⟩) _) ?assign ?body ?done ?stop
  case assign =>
    rintro l' pre y W K ⟨⟨vad, vn, vcap, i1, i2⟩, hB⟩ hK
    obtain ⟨⟨xi, ⟨pb, ⟨mr, mk, mt, ma, mm, mc, mp⟩, ⟨ar, ak, at'⟩⟩⟩, hx⟩ := y
    dsimp only [encAt, Pk.cs]
    have HK := Lib.hid hK
    have HI1 := Lib.hid i1
    have HI2 := Lib.hid i2
    have HB := Lib.hid hB
    clear hK i1 i2 hB
    gi_wp2
    refine HK.out _ _ ((KeepsOthers.alloc _ _).from _) ((Below.refl _ W).alloc HB.out.size _) ⟨⟨vad, vn, vcap, HI1.out.alloc _, HI2.out.alloc _⟩, HB.out.alloc HB.out.size _⟩ ⟨W.heap.size, HI1.out.lt, Blk.new _ _ _, rfl⟩
  case body =>
    rintro l' pre ⟨⟨xi, p⟩, hx⟩ a' W hl hr ⟨⟨vad, vn, vcap, i1, i2⟩, hB⟩ ⟨Bx, q1, q2, rfl⟩ hlt
    have d5 : W.cell? ⟨w1.heap.size, 0, none⟩ = some (.slice vad vn vcap) := i1.at_ 0
    have f5 := i1.free 0
    have HB2' := Lib.hid (HB2.out.below hB HB2.out.lt)
    have HB3' := Lib.hid (HB3.out.below hB HB3.out.lt)
    have d2 : W.cell? ⟨w.heap.size, 0, none⟩ = some (.slice none 0 0) := HB2'.out.at_ 0
    have d3 : W.cell? ⟨w.heap.size + 1, 0, none⟩ = some (.bool false) := by have := HB3'.out.at_ 0; simpa using this
    have f2 := HB2'.out.free 0
    have f3 : W.frozen? ⟨w.heap.size + 1, 0, none⟩ = false := by have := HB3'.out.free 0; simpa using this
    obtain ⟨pb, ⟨mr, mk, mt, ma, mm, mc, mp⟩, ⟨ar, ak, at'⟩⟩ := p
    dsimp only [Pk.cs] at q2
    obtain ⟨e0, e1, e2, e3, e4, e5, e6, e7, e8, e9, e10⟩ := pk_cells q2
    have hvl := i2.len_eq
    rw [List.length_map] at hvl
    obtain ⟨hvl, hvc⟩ := hvl
    subst hvl
    have HI1 := Lib.hid i1
    have HI2 := Lib.hid i2
    have HB := Lib.hid hB
    have HQ := Lib.hid q2
    have hlb : Hid ((pre.map fun x => x.1.2).length + 1 ≤ 274877906944) := Lib.hid (by have := HL.out; rw [List.length_map]; omega)
    clear hl hr i1 i2 hB q2 hlt
    by_cases hxi : xi = pre.length
    · subst hxi
      have hne : (((pre.length : Int)) != (pre.length : Int)) = false := by simp
      gi_wp2_with (gi_at_builtin; refine EP.wpListIn_app rfl _ _ (by rfl) w1.heap.size _ _ [⟨pb, ⟨mr, mk, mt, ma, mm, mc, mp⟩, ⟨ar, ak, at'⟩⟩] W _ (by rfl) HI2.out _ 1 (by rfl) (by rfl) (by rfl) (by rfl) hlb.out HB.out.size ?_; intro ad9 n9 c9 w9 h9; have g9 := h9.out.upd.blk HI1.out (HI2.out.apart HI1.out (by decide)); have d9 := g9.at_ 0; have f9 := g9.free 0)
      refine ⟨?_, ?_, ⟨ad9, n9, c9, ?_, ?_⟩, ?_⟩
      · exact ((h9.out.keeps HI2.out).trans (KeepsOthers.setCell _ _ _)).from _
      · exact (h9.out.upd.below w1.heap.size HB.out.size (fun k hk => (HI2.out.lt k hk).1)).setCell (Nat.le_refl _) _
      · exact g9.set _
      · rw [List.map_append]
        exact h9.out.own.same fun g hg => Below.heap_setCell _ _ _ _ (fun e => by subst e; exact h9.out.own.apart g9 (by decide) hg)
      · exact (h9.out.below HI2.out HB.out HB.out.size).setCell (Nat.le_refl _) _
    · have hne : (((xi : Int)) != (pre.length : Int)) = true := bne_iff_ne.2 (by omega)
      have HX := Lib.hid hxi
      clear hxi
      gi_wp2
      refine ⟨?_, rfl, fun h => HX.out (places_last h)⟩
      exact ((KeepsOthers.setCell _ _ _).trans (KeepsOthers.setCell _ _ _)).from _
  case done =>
    rintro D ys W hD hS ⟨⟨vad, vn, vcap, i1, i2⟩, hB⟩ hK
    rw [packets_of hS] at i2
    have hvl := i2.len_eq
    simp only [Exit.inBlock, Exit.then]
    rename_i hKq
    refine hKq _ _ ?_
    refine wpIn_wide.2 ?_
    clear hKq
    have d5 : W.cell? ⟨w1.heap.size, 0, none⟩ = some (.slice vad vn vcap) := i1.at_ 0
    have HB2' := Lib.hid (HB2.out.below hB HB2.out.lt)
    have HB3' := Lib.hid (HB3.out.below hB HB3.out.lt)
    have d2 : W.cell? ⟨w.heap.size, 0, none⟩ = some (.slice none 0 0) := HB2'.out.at_ 0
    have d3 : W.cell? ⟨w.heap.size + 1, 0, none⟩ = some (.bool false) := by have := HB3'.out.at_ 0; simpa using this
    have f2 := HB2'.out.free 0
    have f3 : W.frozen? ⟨w.heap.size + 1, 0, none⟩ = false := by have := HB3'.out.free 0; simpa using this
    have HI1 := Lib.hid i1
    have HI2 := Lib.hid i2
    have HB := Lib.hid hB
    have HVL := Lib.hid hvl
    have HKK := Lib.hid hK
    have HD := Lib.hid hD
    have HW := Lib.hid (HN.out.below (HB1.out.trans (hB.mono HB1.out.size)))
    have hvll : ((vn : Int) == (l.length : Int)) = true := by rw [hvl.1]; simp
    clear i1 i2 hB hvl hK hD hS
    obtain ⟨W9, hW9⟩ : ∃ W9, Hid (((W.setCell ⟨w.heap.size, 0, none⟩ (.slice vad vn vcap)).setCell ⟨w.heap.size + 1, 0, none⟩ (.bool true)).drew = W9) := ⟨_, Lib.hid rfl⟩
    refine Code.wp_mono (Q := fun e a w' => match e with | .ret => a.defers = [{ target := .collected D, args := #[] }] ∧ a.tmps[2]? = some (.pointer (some ⟨w.heap.size, 0, none⟩)) ∧ a.tmps[3]? = some (.pointer (some ⟨w.heap.size + 1, 0, none⟩)) ∧ w' = W9 | _ => False) ?_ ?_
    · rintro e ⟨tmps, defers⟩ w' hq
      cases e <;> try exact hq.elim
      obtain ⟨hdf, ht2, ht3, rfl⟩ := hq
      dsimp only at hdf ht2 ht3
      subst hdf
      have hK' : w'.heap[D]? = some (.deferred (some [])) := by
        rw [← hW9.out]
        exact ((KeepsOthers.setCell W ⟨w.heap.size, 0, none⟩ (.slice vad vn vcap)).trans (KeepsOthers.setCell _ ⟨w.heap.size + 1, 0, none⟩ (.bool true))).same D _ HKK.out rfl
      refine ⟨by simp, .inl ⟨_, _, rfl, run_takeDeferred hK', ?_⟩⟩
      have hc2 : Blk (w'.putObj D (.deferred none)) w.heap.size 26 #[.slice vad vn vcap] := by
        refine blk_own _ _ (fun _ : Unit => _) () w' _ _ ?_ (grownBy_putObj' _ D (.deferred none)) (fun r e => by cases e; exact ⟨_, hK', rfl⟩)
        rw [← hW9.out]
        exact ((HB2'.out.set (j := 0) (.slice vad vn vcap)).other (by simp) _)
      have hc3 : Blk (w'.putObj D (.deferred none)) (w.heap.size + 1) 4 #[.bool true] := by
        refine blk_own _ _ (fun _ : Unit => _) () w' _ _ ?_ (grownBy_putObj' _ D (.deferred none)) (fun r e => by cases e; exact ⟨_, hK', rfl⟩)
        rw [← hW9.out]
        have := HB3'.out
        rw [World.size_alloc] at this
        exact ((this.other (a := ⟨w.heap.size, 0, none⟩) (by simp) _).set (j := 0) (.bool true))
      have hc4 : (w'.putObj D (.deferred none)).cell? ⟨w.heap.size, 0, none⟩ = some (.slice vad vn vcap) := hc2.at_ 0
      have hc5 : (w'.putObj D (.deferred none)).cell? ⟨w.heap.size + 1, 0, none⟩ = some (.bool true) := hc3.at_ 0
      have ho : EP.Own (w'.putObj D (.deferred none)) w.heap.size (.slice vad vn vcap) l := by
        have h1 : EP.Own w' w1.heap.size (.slice vad vn vcap) l := by
          rw [← hW9.out]
          refine Elt.Own.drew ((HI2.out.same fun g hg => Below.heap_setCell _ _ _ _ (fun e => ?_)).same fun g hg => Below.heap_setCell _ _ _ _ (fun e => ?_))
          · have := (HI2.out.lt g hg).1; subst e; dsimp only at this; omega
          · have := (HI2.out.lt g hg).1; subst e; dsimp only at this; omega
        refine (own_own EP w1.heap.size (fun _ : Unit => _) (fun _ => l) () w' _ _ h1 (grownBy_putObj' _ D (.deferred none)) (fun r e => by cases e; exact ⟨_, hK', rfl⟩)).mono (fun k hk => ?_)
        have := (h1.lt k hk).1
        omega
      refine ⟨.tuple #[.slice vad vn vcap, .bool true], ?_, vad, vn, vcap, rfl, HVL.out.1, HVL.out.2, ho, ?_⟩
      · simp [results, Try.f11, go_sem, ht2, ht3, hc4, hc5]
      · have hB' : Below w.heap.size w w' := by
          rw [← hW9.out]
          have h := ((((HB1.out.trans (HB.out.mono HB1.out.size)).setCell (p := ⟨w.heap.size, 0, none⟩) (Nat.le_refl _) (.slice vad vn vcap)).setCell (p := ⟨w.heap.size + 1, 0, none⟩) (by simp) (.bool true)))
          exact ⟨h.os, h.tape, h.output, h.size, h.block⟩
        exact hB'.trans (belowK_b (w := w) (Nat.le_refl _) _ D _ _ (by have := HD.out; have := b0.out.2.size; omega) hK' rfl rfl)
    · go_wp2_with fail
      go_region_with (go_at_call 18; ((with_reducible refine (len_any B bn v l _ HW.out.drew).mono ?_); rintro e w9 ⟨rfl, rfl⟩))
      all_goals go_wp2
      all_goals first | exact hW9.out | exact ⟨rfl, rfl, rfl, hW9.out⟩
  case stop =>
    rintro D c pre W hD ⟨k, hk⟩ ⟨rfl, hx⟩ hK
    have hkl : pre.length = k := by
      have := congrArg List.length hk
      simpa [places] using this
    rw [← hkl] at hk
    exact absurd hk hx
end Go.Proofs.Ytlnhpeghgabnkaa
