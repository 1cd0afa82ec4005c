/-
  Layer 11: gather: what an iterator tells, as a list of the call's own.
-/
import Derived.Test.YtiffjjophmgdlaaSeqs
import Derived.Test.YtiffjjophmgdlaaLst
import Derived.Sort.CutIn
namespace Go.Proofs.Ytiffjjophmgdlaa
open Go.RowKit Tb
attribute [local go_sem] Oper.semAt_some

/-- Where the body of gather stands. -/
def gaI (w : World) (pre : List Rw) (W : World) : Prop :=
  ((∃ ad n cap, Blk W (w.heap.size + 1 + 1 + 1) 22 #[.slice ad n cap] ∧ ER.Own W w.heap.size (.slice ad n cap) pre) ∧ Blk W w.heap.size 22 #[.slice none 0 0] ∧ Blk W (w.heap.size + 1) 4 #[.bool false]) ∧ Below w.heap.size w W
theorem gaI_own (w : World) (B : Nat) (hB : w.heap.size ≤ B) : OwnFrom B (gaI w) :=
  OwnFrom.and (Own.from (fun s X Y row hs hg hr => by
    obtain ⟨⟨ad, n, cap, h1, h2⟩, h3, h4⟩ := hs
    exact ⟨⟨ad, n, cap, blk_own _ _ (fun _ : Unit => _) () X Y row h1 hg hr, own_own ER w.heap.size (fun _ : Unit => .slice ad n cap) (fun _ => s) () X Y row h2 hg hr⟩, blk_own _ _ (fun _ : Unit => _) () X Y row h3 hg hr, blk_own _ _ (fun _ : Unit => _) () X Y row h4 hg hr⟩) _) (ownFrom_below (Nat.le_refl _) hB)
theorem kf_append {W w1 : World} {B n : Nat} {v v' : Value} {l l' : List Rw} (h : ER.Apd W B v l' v' w1) (hv : ER.Own W B v l) (hn : n ≤ B) (hW : n ≤ W.heap.size) : Kf n W w1 :=
  ⟨h.upd.below n hW (fun k hk => Nat.le_trans hn (hv.lt k hk).1), fun k cs m hx => by
    have hlt : k < W.heap.size := Nat.lt_of_not_le fun h' => by rw [Array.getElem?_eq_none h'] at hx; cases hx
    refine (h.upd.block k hlt fun e => ?_).trans hx
    obtain ⟨cur, hb⟩ := hv.blk e
    rw [show W.heap[k]? = _ from hb] at hx
    simp only [Option.some.injEq, Obj.cells.injEq] at hx
    exact absurd hx.2.1 (by decide)⟩
set_option maxRecDepth 100000 in
set_option maxHeartbeats 8000000 in
theorem gather_any (f : FuncId) (lb : Array Value) (ys : List Rw) (N : Nat) (w : World) (hT : Tells w f lb ys N) (hN : N ≤ 20001) :
    Calls Try.prog 11 #[.func (.func f) #[] lb] w fun e w' => ∃ ad n cap, e = .returned (.tuple #[.slice ad n cap, .bool true]) ∧ ER.Own w' w.heap.size (.slice ad n cap) ys ∧ Below w.heap.size w w' := by
  refine (callsIn_wide (n := 3)).1 ?_
  have hmo : Try.prog.follows .mixedOrders = true := by kernel_rfl
  have hg : Fence.wide.fn f := trivial
  have hro : Fence.wide.round = none := rfl
  have HT := Lib.hid hT
  have hnf : ∀ (f : Fn) (a b : Array Value) (W : World), (binOp .eql 38 (.func f a b) .nilFunc).run Try.prog W = .ok (.bool false) W := fun f a b W => by kernel_rfl
  clear hT
  refine callsIn_of_wp_marks Try.func11 rfl trivial ?_ hro
  simp only [Try.ntmps11, List.size_toArray, List.length_cons, List.length_nil, Nat.reduceAdd, Nat.reduceSub, Array.replicate_succ, Array.replicate_zero, List.push_toArray, List.append_toArray, List.nil_append, List.cons_append]
  gi_wp2_with fail
  obtain ⟨W0, hW0⟩ : ∃ W0, Hid ((((w.alloc (.cells #[.slice none 0 0] 22)).alloc (.cells #[.bool false] 4)).alloc (.cells #[] 25)).alloc (.cells #[.slice (some ⟨w.heap.size + 1 + 1, 0, none⟩) 0 0] 22) = W0) := ⟨_, Lib.hid rfl⟩
  have b0 : Hid (gaI w [] W0) := by
    rw [← hW0.out]
    have b1 := Blk.new (w.alloc (.cells #[.slice none 0 0] 22)) #[.bool false] 4
    have b2 := own_lit0 ((w.alloc (.cells #[.slice none 0 0] 22)).alloc (.cells #[.bool false] 4)) w.heap.size (by simp; omega)
    have b3 := Blk.new (((w.alloc (.cells #[.slice none 0 0] 22)).alloc (.cells #[.bool false] 4)).alloc (.cells #[] 25)) #[.slice (some ⟨w.heap.size + 1 + 1, 0, none⟩) 0 0] 22
    simp only [World.size_alloc] at b1 b2 b3
    exact Lib.hid ⟨⟨⟨_, _, _, b3, b2.alloc _⟩, (((Blk.new _ _ _).alloc _).alloc _).alloc _, (b1.alloc _).alloc _⟩, ((((Below.refl _ _).alloc (Nat.le_refl _) _).alloc (by simp) _).alloc (by simp; omega) _).alloc (by simp; omega) _⟩
  have hsz : Hid (W0.heap.size = w.heap.size + 4) := by rw [← hW0.out]; exact Lib.hid (by simp)
  rw [hW0.out]
  have hnl : Hid (N ≤ 20001) := Lib.hid hN
  refine wpIn_rangeFunc_ownH hro (by omega) (gf := f) (lb := lb) rfl hg HT.out.enters
    (HT.out.stops (3 - 1) (by omega) W0 b0.out.2) (fun h k => h.trans k) (fun W l o o' hl h hc hw => Kf.putObj b0.out.2.size W l o o' hl h hc hw) (Below.refl _ _) (fun _ => rfl)
    (gaI w) (fun c pre _ => False) (gaI_own w _ b0.out.2.size) (fun c => Own.from (fun _ _ _ _ hs _ _ => hs) _) b0.out
    (fun z a' _ => a' = { tmps := #[.func (.func f) #[] lb, undef, .pointer (some ⟨w.heap.size, 0, none⟩), .pointer (some ⟨w.heap.size + 1, 0, none⟩), .pointer (some ⟨w.heap.size + 1 + 1 + 1, 0, none⟩), .string z.1, .string z.2, .slice (some ⟨w.heap.size + 1 + 1, 0, none⟩) 0 0,
      .func (.func f) #[] lb, .bool false, undef, .func (.func f) #[] lb, .string z.1, .string z.2, undef, undef, undef, undef, undef, undef, undef, undef, undef, undef, undef], defers := [] }) (fun y a' => Own.from (fun _ _ _ _ hs _ _ => hs) _) ?assign ?body ?done ?stop
  case assign =>
    rintro l' pre z W K hI hK
    have HK := Lib.hid hK
    have HI := Lib.hid hI
    clear hK hI
    dsimp only [encR]
    gi_wp2
    exact HK.out _ _ ((KeepsOthers.refl _).from _) (Kf.refl _ _) HI.out rfl
  case body =>
    rintro l' pre ⟨zk, zv⟩ a' W hl hr ⟨⟨⟨vad, vn, vcap, i1, i2⟩, i3, i4⟩, hB⟩ rfl hlt
    have d5 : W.cell? ⟨w.heap.size + 1 + 1 + 1, 0, none⟩ = some (.slice vad vn vcap) := i1.at_ 0
    have f5 := i1.free 0
    have HI1' := Lib.hid i1
    have HI2' := Lib.hid i2
    have HI3' := Lib.hid i3
    have HI4' := Lib.hid i4
    have HB := Lib.hid hB
    have hvl := i2.len_eq.1
    subst hvl
    have hlb : Hid (pre.length + 1 ≤ 20001) := Lib.hid (by have := hnl.out; omega)
    have hlb2 : Hid (pre.length + 1 ≤ 274877906944) := Lib.hid (by have := hnl.out; omega)
    clear hl hr i1 i2 i3 i4 hB hlt
    gi_upto_region 8 with (gi_at_builtin; refine ER.wpListIn_app rfl _ _ (by rfl) w.heap.size _ _ [(zk, zv)] W _ (by rfl) HI2'.out _ 1 (by rfl) (by rfl) (by rfl) (by rfl) hlb2.out HB.out.size ?_; intro ad9 n9 c9 w9 h9; have g9 := h9.out.upd.blk HI1'.out (HI2'.out.apart HI1'.out (by decide)); have d9 := g9.at_ 0; have f9 := g9.free 0)
    have hn9 := h9.out.own.len_eq.1
    simp only [List.length_append, List.length_singleton] at hn9
    have hno : ¬ (50000 : Int) < (n9 : Int) := by have := hlb.out; omega
    clear hn9
    gi_wp2_with fail
    refine ⟨?_, ?_, ⟨⟨⟨ad9, n9, c9, ?_, ?_⟩, ?_, ?_⟩, ?_⟩⟩
    · exact ((h9.out.keeps HI2'.out).trans (KeepsOthers.setCell _ _ _)).from _
    · exact (kf_append h9.out HI2'.out (Nat.le_refl _) HB.out.size).setCell _ (by simp; omega) _ g9 (by decide)
    · exact g9.set _
    · exact h9.out.own.same fun g hg => Below.heap_setCell _ _ _ _ (fun e => by subst e; exact h9.out.own.apart g9 (by decide) hg)
    · exact (h9.out.upd.blk HI3'.out (HI2'.out.apart HI3'.out (by decide))).other (by simp; omega) _
    · exact (h9.out.upd.blk HI4'.out (HI2'.out.apart HI4'.out (by decide))).other (by simp) _
    · exact (h9.out.below HI2'.out HB.out HB.out.size).setCell (by simp; omega) _
  case done =>
    rintro D zs W hD rfl ⟨⟨⟨vad, vn, vcap, i1, i2⟩, i3, i4⟩, hB⟩ hK
    have d5 : W.cell? ⟨w.heap.size + 1 + 1 + 1, 0, none⟩ = some (.slice vad vn vcap) := i1.at_ 0
    have d2 : W.cell? ⟨w.heap.size, 0, none⟩ = some (.slice none 0 0) := i3.at_ 0
    have d3 : W.cell? ⟨w.heap.size + 1, 0, none⟩ = some (.bool false) := i4.at_ 0
    have f2 := i3.free 0
    have f3 := i4.free 0
    have HI1' := Lib.hid i1
    have HI2' := Lib.hid i2
    have HI3' := Lib.hid i3
    have HI4' := Lib.hid i4
    have HB := Lib.hid hB
    have HKK := Lib.hid hK
    have HD := Lib.hid hD
    clear i1 i2 i3 i4 hB hK hD
    gi_wp2_with fail
    have hK' := ((KeepsOthers.setCell W ⟨w.heap.size, 0, none⟩ (.slice vad vn vcap)).trans (KeepsOthers.setCell _ ⟨w.heap.size + 1, 0, none⟩ (.bool true))).same D _ HKK.out rfl
    refine ⟨by simp, .inl ⟨_, _, rfl, run_takeDeferred hK', ?_⟩⟩
    have e1 : Blk ((W.setCell ⟨w.heap.size, 0, none⟩ (.slice vad vn vcap)).setCell ⟨w.heap.size + 1, 0, none⟩ (.bool true)) w.heap.size 22 #[.slice vad vn vcap] := (HI3'.out.set (j := 0) (.slice vad vn vcap)).other (by simp) _
    have e2 : Blk ((W.setCell ⟨w.heap.size, 0, none⟩ (.slice vad vn vcap)).setCell ⟨w.heap.size + 1, 0, none⟩ (.bool true)) (w.heap.size + 1) 4 #[.bool true] := (HI4'.out.other (by simp) _).set (j := 0) (.bool true)
    have hc5 := blk_own w.heap.size _ (fun _ : Unit => _) () _ _ _ e1 (grownBy_putObj' _ D (.deferred none)) (fun r e => by cases e; exact ⟨_, hK', rfl⟩)
    have hc6 := blk_own (w.heap.size + 1) _ (fun _ : Unit => _) () _ _ _ e2 (grownBy_putObj' _ D (.deferred none)) (fun r e => by cases e; exact ⟨_, hK', rfl⟩)
    have hc7 := hc5.at_ 0
    have hc8 := hc6.at_ 0
    have hown : ER.Own ((W.setCell ⟨w.heap.size, 0, none⟩ (.slice vad vn vcap)).setCell ⟨w.heap.size + 1, 0, none⟩ (.bool true)) w.heap.size (.slice vad vn vcap) zs :=
      (HI2'.out.same fun g hg => Below.heap_setCell _ _ _ _ (fun e => by subst e; exact HI2'.out.apart HI3'.out (by decide) hg)).same fun g hg => Below.heap_setCell _ _ _ _ (fun e => by subst e; exact HI2'.out.apart HI4'.out (by decide) hg)
    refine ⟨.tuple #[.slice vad vn vcap, .bool true], ?_, vad, vn, vcap, rfl, ?_, ?_⟩
    · simp at hc7 hc8
      simp [results, Try.f11, go_sem, hc7, hc8]
    · exact own_own ER w.heap.size (fun _ : Unit => _) (fun _ => zs) () _ _ _ hown (grownBy_putObj' _ D (.deferred none)) (fun r e => by cases e; exact ⟨_, hK', rfl⟩)
    · exact ((HB.out.setCell (p := ⟨w.heap.size, 0, none⟩) (Nat.le_refl _) _).setCell (p := ⟨w.heap.size + 1, 0, none⟩) (Nat.le_succ _) _).trans (belowK_b (w := w) (Nat.le_refl _) _ D _ _ (Nat.le_trans b0.out.2.size HD.out) hK' rfl rfl)
  case stop =>
    rintro D c pre W _ _ h _
    exact h.elim
end Go.Proofs.Ytiffjjophmgdlaa
