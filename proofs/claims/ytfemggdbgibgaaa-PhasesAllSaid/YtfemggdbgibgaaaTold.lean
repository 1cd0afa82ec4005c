/-
  Layer 22: walked: an iterator tells just the good pairs.
-/
import Derived.Test.YtfemggdbgibgaaaTells
import Derived.Test.YtfemggdbgibgaaaArr
namespace Go.Proofs.Ytfemggdbgibgaaa
open Go.RowKit
attribute [local go_sem] Oper.semAt_some

theorem blk_own {β : Type} (B : Nat) (t : TypeId) (cs : β → Array Value) : Own (fun s W => Blk W B t (cs s)) := fun s X Y row hs hg hrow =>
  (hg.block B hs.lt (fun e' => by obtain ⟨o, ho, hc⟩ := hrow B e'.symm; rw [show X.heap[B]? = _ from hs] at ho; cases ho; cases hc)).trans hs
theorem placesG_last {pre : List Gt} {x : Gt} (h : placesG (pre ++ [x]) = List.range (pre ++ [x]).length) : x.1.1 = pre.length := by
  have e : placesG (pre ++ [x]) = placesG pre ++ [x.1.1] := by simp [placesG]
  rw [e, List.length_append, List.length_singleton, List.range_succ] at h
  have := (List.append_inj' h rfl).2
  simpa using this
/-- Where the body of walked stands. -/
def wkI (w : World) (wad : Option Addr) (wc : Nat) (gad : Option Addr) (gc : Nat) (st : Int) (pre : List Gt) (W : World) : Prop :=
  (Blk W w.heap.size 23 #[.slice wad 6 wc] ∧ Blk W (w.heap.size + 1) 23 #[.slice gad 6 gc] ∧ Blk W (w.heap.size + 1 + 1) 3 #[.int .i64 st] ∧ Blk W (w.heap.size + 1 + 1 + 1) 4 #[.bool false] ∧ Blk W (w.heap.size + 1 + 1 + 1 + 1) 3 #[.int .i64 (pre.length : Int)]) ∧ Below w.heap.size w W
def wkX (w : World) (c : Code) (pre : List Gt) (W : World) : Prop :=
  (c = .ret ∧ (placesG pre = List.range pre.length → Blk W (w.heap.size + 1 + 1 + 1) 4 #[.bool true])) ∧ Below w.heap.size w W
theorem wkI_own (w : World) (wad : Option Addr) (wc : Nat) (gad : Option Addr) (gc : Nat) (st : Int) (B : Nat) (hB : w.heap.size ≤ B) : OwnFrom B (wkI w wad wc gad gc st) :=
  OwnFrom.and (Own.from (fun _ X Y row hs hg hr => ⟨blk_own _ _ (fun _ : Unit => _) () X Y row hs.1 hg hr, blk_own _ _ (fun _ : Unit => _) () X Y row hs.2.1 hg hr, blk_own _ _ (fun _ : Unit => _) () X Y row hs.2.2.1 hg hr, blk_own _ _ (fun _ : Unit => _) () X Y row hs.2.2.2.1 hg hr, blk_own _ _ (fun _ : Unit => _) () X Y row hs.2.2.2.2 hg hr⟩) _) (ownFrom_below (Nat.le_refl _) hB)
theorem wkX_own (w : World) (c : Code) (B : Nat) (hB : w.heap.size ≤ B) : OwnFrom B (wkX w c) :=
  OwnFrom.and (Own.from (fun _ X Y row hs hg hr => ⟨hs.1, fun h => blk_own _ _ (fun _ : Unit => _) () X Y row (hs.2 h) hg hr⟩) _) (ownFrom_below (Nat.le_refl _) hB)
def wkA (w : World) (wad : Option Addr) (wc : Nat) (gad : Option Addr) (gc : Nat) (st : Int) (x : Gt) (a' : Act) (_ : World) : Prop :=
  a' = { tmps := #[.slice wad 6 wc, .slice gad 6 gc, .func (.func 26) #[] #[], .int .i64 st, .pointer (some ⟨w.heap.size, 0, none⟩), .pointer (some ⟨w.heap.size + 1, 0, none⟩), undef, .pointer (some ⟨w.heap.size + 1 + 1, 0, none⟩), .pointer (some ⟨w.heap.size + 1 + 1 + 1, 0, none⟩), .pointer (some ⟨w.heap.size + 1 + 1 + 1 + 1, 0, none⟩), .int .i64 x.1.2.1, .int .i64 x.1.2.2,
    .func (.func 26) #[] #[], .int .i64 x.1.2.1, .int .i64 x.1.2.2, undef, undef, undef, undef, undef, undef, undef, undef, undef, undef, undef, undef, undef, undef, undef, undef, undef, undef, undef, undef, undef, undef, undef, undef, undef, undef, undef, undef, undef, undef, undef, undef, undef, undef], defers := [] }
set_option maxRecDepth 100000 in
set_option maxHeartbeats 8000000 in
theorem walked_in (wad : Option Addr) (wc : Nat) (gad : Option Addr) (gc : Nat) (st : Int) (w : World) (hR : EQ.Rd w w.heap.size wad gp) (hG : EQ.Rd w w.heap.size gad gp) :
    CallsIn Fence.wide 3 Try.prog 12 #[.slice wad 6 wc, .slice gad 6 gc, .func (.func 26) #[] #[], .int .i64 st] w fun e w' => e = .returned (.bool true) ∧ Below w.heap.size w w' := by
  have hro : Fence.wide.round = none := rfl
  have hmo : Try.prog.follows .mixedOrders = true := by kernel_rfl
  have HR := Lib.hid hR
  have HG := Lib.hid hG
  clear hR hG
  refine callsIn_of_wp_marks Try.func12 rfl trivial ?_ hro
  simp only [Try.ntmps12, List.size_toArray, List.length_cons, List.length_nil, Nat.reduceAdd, Nat.reduceSub, Array.replicate_succ, Array.replicate_zero, List.push_toArray, List.append_toArray, List.nil_append, List.cons_append]
  gi_wp2
  obtain ⟨W0, hW0⟩ : ∃ W0, Hid ((((((w.alloc (.cells #[.slice wad 6 wc] 23)).alloc (.cells #[.slice gad 6 gc] 23)).alloc (.cells #[.int .i64 st] 3)).alloc (.cells #[.bool false] 4)).alloc (.cells #[.int .i64 0] 3)) = W0) := ⟨_, Lib.hid rfl⟩
  have b0 : Hid (wkI w wad wc gad gc st [] W0) := by
    rw [← hW0.out]
    have b1 := Blk.new (w.alloc (.cells #[.slice wad 6 wc] 23)) #[.slice gad 6 gc] 23
    have b2 := Blk.new ((w.alloc (.cells #[.slice wad 6 wc] 23)).alloc (.cells #[.slice gad 6 gc] 23)) #[.int .i64 st] 3
    have b3 := Blk.new (((w.alloc (.cells #[.slice wad 6 wc] 23)).alloc (.cells #[.slice gad 6 gc] 23)).alloc (.cells #[.int .i64 st] 3)) #[.bool false] 4
    have b4 := Blk.new ((((w.alloc (.cells #[.slice wad 6 wc] 23)).alloc (.cells #[.slice gad 6 gc] 23)).alloc (.cells #[.int .i64 st] 3)).alloc (.cells #[.bool false] 4)) #[.int .i64 0] 3
    simp only [World.size_alloc] at b1 b2 b3 b4
    exact Lib.hid ⟨⟨((((Blk.new _ _ _).alloc _).alloc _).alloc _).alloc _, ((b1.alloc _).alloc _).alloc _, (b2.alloc _).alloc _, b3.alloc _, b4⟩, (((((Below.refl _ _).alloc (Nat.le_refl _) _).alloc (by simp) _).alloc (by simp; omega) _).alloc (by simp; omega) _).alloc (by simp; omega) _⟩
  have hsz : Hid (W0.heap.size = w.heap.size + 5) := by rw [← hW0.out]; exact Lib.hid (by simp)
  rw [hW0.out]
  refine wpIn_rangeFunc_ownH hro (by omega) (gf := 26) (lb := #[]) rfl trivial (enters_of Try.func26 (by kernel_rfl) rfl)
    (all_stops (3 - 1) (by omega) W0) (fun h k => h.trans k) (fun W l o o' _ h hc _ => Kq.putObj W l o o' h hc) (Below.refl _ _) (fun _ => rfl)
    (wkI w wad wc gad gc st) (fun c => wkX w c) (wkI_own w wad wc gad gc st _ b0.out.2.size) (fun c => wkX_own w c _ b0.out.2.size) b0.out
    (wkA w wad wc gad gc st) (fun x a' _ X Y row hs hg hr => hs) ?assign ?body ?done ?stop
  case assign =>
    rintro l pre x W K hI hK
    obtain ⟨⟨xi, p, a⟩, hx⟩ := x
    dsimp only [encG]
    have HK := Lib.hid hK
    have HI := Lib.hid hI
    clear hK hI
    gi_wp2
    exact HK.out _ _ ((KeepsOthers.refl _).from _) (Kq.refl _ _) HI.out rfl
  case body =>
    rintro l pre ⟨⟨xi, p, a⟩, hx⟩ a' W hl hr ⟨⟨i1, i2, i3, i4, i5⟩, hB⟩ rfl hlt
    obtain ⟨q, b, hq, _, _⟩ := grow_at pre.length hlt
    have HQ := Lib.hid hq
    have d0 : W.cell? ⟨w.heap.size, 0, none⟩ = some (.slice wad 6 wc) := i1.at_ 0
    have d1 : W.cell? ⟨w.heap.size + 1, 0, none⟩ = some (.slice gad 6 gc) := i2.at_ 0
    have d2 : W.cell? ⟨w.heap.size + 1 + 1, 0, none⟩ = some (.int .i64 st) := i3.at_ 0
    have d3 : W.cell? ⟨w.heap.size + 1 + 1 + 1, 0, none⟩ = some (.bool false) := i4.at_ 0
    have d4 : W.cell? ⟨w.heap.size + 1 + 1 + 1 + 1, 0, none⟩ = some (.int .i64 (pre.length : Int)) := i5.at_ 0
    have f3 := i4.free 0
    have f4 := i5.free 0
    have HI1 := Lib.hid i1
    have HI2 := Lib.hid i2
    have HI3 := Lib.hid i3
    have HI4 := Lib.hid i4
    have HI5 := Lib.hid i5
    have HB := Lib.hid hB
    have hkl2 : (pre.length : Int) < 6 := by omega
    have hdk : decide ((6 : Int) ≤ (pre.length : Int)) = false := decide_eq_false (by omega)
    have HLT := Lib.hid hlt
    clear hl hr i1 i2 i3 i4 i5 hB hlt hq
    have hXo : Hid (w.heap.size + 5 = W0.heap.size) := Lib.hid hsz.out.symm
    obtain ⟨bw, ow, hwad, hbw, c0, c1⟩ := rdQ (HR.out.below HB.out (Nat.le_refl _)) pre.length q b HQ.out
    obtain ⟨bg, og, hgad, hbg, g0, g1⟩ := rdQ (HG.out.below HB.out (Nat.le_refl _)) pre.length q b HQ.out
    subst hwad hgad
    have hbw2 : bw < W.heap.size := Nat.lt_of_lt_of_le hbw HB.out.size
    have hbg2 : bg < W.heap.size := Nat.lt_of_lt_of_le hbg HB.out.size
    clear hbw hbg
    by_cases hpq : q = p
    · subst hpq
      by_cases hab : b = a
      · subst hab
        have hn1 := fun W => run_neq2 W q b q b
        rw [show (!(q == q && b == b)) = false from by simp] at hn1
        gi_wp2
        refine wpIn_region_quiet_round hro hmo (by kernel_rfl) (by kernel_rfl) ?_
        repeat (gi_big_quiet_step (fail))
        refine wpQuietIn_nil ?_
        intro _ hw'
        obtain ⟨nq, hw''⟩ := hw'
        subst hw''
        clear c0 c1 g0 g1 d0 d1 d2 d3 d4 f3 f4
        obtain ⟨W1, hW1⟩ : ∃ W1, Hid (W.drewN nq = W1) := ⟨_, Lib.hid rfl⟩
        have HK : Hid (KeepsOthers W W1 ∧ Kq W0.heap.size W W1 ∧ Below w.heap.size W W1) := by rw [← hW1.out]; exact Lib.hid ⟨⟨Nat.le_refl _, fun _ _ h _ => h⟩, Kq.drewN _ _, ⟨rfl, rfl, rfl, Nat.le_refl _, fun _ _ => rfl⟩⟩
        have G1 : Hid (Blk W1 w.heap.size 23 #[.slice (some ⟨bw, ow, none⟩) 6 wc]) := by rw [← hW1.out]; exact HI1
        have G2 : Hid (Blk W1 (w.heap.size + 1) 23 #[.slice (some ⟨bg, og, none⟩) 6 gc]) := by rw [← hW1.out]; exact HI2
        have G3 : Hid (Blk W1 (w.heap.size + 1 + 1) 3 #[.int .i64 st]) := by rw [← hW1.out]; exact HI3
        have G4 : Hid (Blk W1 (w.heap.size + 1 + 1 + 1) 4 #[.bool false]) := by rw [← hW1.out]; exact HI4
        have G5 : Hid (Blk W1 (w.heap.size + 1 + 1 + 1 + 1) 3 #[.int .i64 (pre.length : Int)]) := by rw [← hW1.out]; exact HI5
        rw [hW1.out]
        have d2 : W1.cell? ⟨w.heap.size + 1 + 1, 0, none⟩ = some (.int .i64 st) := G3.out.at_ 0
        have d3 : W1.cell? ⟨w.heap.size + 1 + 1 + 1, 0, none⟩ = some (.bool false) := G4.out.at_ 0
        have d4 : W1.cell? ⟨w.heap.size + 1 + 1 + 1 + 1, 0, none⟩ = some (.int .i64 (pre.length : Int)) := G5.out.at_ 0
        have f3 := G4.out.free 0
        have f4 := G5.out.free 0
        by_cases hst : (pre.length : Int) + 1 = st
        · have hstb : ((pre.length : Int) + 1 == st) = true := beq_iff_eq.2 hst
          have HST := Lib.hid hst
          clear hst
          gi_wp2
          refine ⟨?_, ⟨rfl, fun _ => ?_⟩, ?_⟩
          · exact ((HK.out.1.trans (KeepsOthers.setCell _ _ _)).trans (KeepsOthers.setCell _ _ _)).from _
          · exact ((G4.out.other (by simp) _).set _)
          · exact ((HB.out.trans HK.out.2.2).setCell (by simp; omega) _).setCell (by simp; omega) _
        · have hstb : ((pre.length : Int) + 1 == st) = false := beq_eq_false_iff_ne.2 hst
          have HST := Lib.hid hst
          clear hst
          gi_wp2
          refine ⟨?_, ?_, ⟨⟨?_, ?_, ?_, ?_, ?_⟩, ?_⟩⟩
          · exact (HK.out.1.trans (KeepsOthers.setCell _ _ _)).from _
          · exact HK.out.2.1.setCell _ (by have := hXo.out; simp; omega) _
          · exact G1.out.other (by simp; omega) _
          · exact G2.out.other (by simp) _
          · exact G3.out.other (by simp) _
          · exact G4.out.other (by simp) _
          · have := G5.out.set (j := 0) (.int .i64 ((pre.length : Int) + 1))
            rw [List.length_append, List.length_singleton]
            exact this
          · exact (HB.out.trans HK.out.2.2).setCell (by simp; omega) _
      · have hne : Hid (¬ placesG (pre ++ [(⟨(xi, q, a), hx⟩ : Gt)]) = List.range (pre ++ [(⟨(xi, q, a), hx⟩ : Gt)]).length) := Lib.hid fun h => by
          have h1 : xi = pre.length := placesG_last h
          subst h1
          have h2 := hx.out
          rw [show gp[((pre.length, q, a) : Nat × Int × Int).1]? = some (q, b) from HQ.out] at h2
          exact hab (Prod.mk.inj (Option.some.inj h2)).2
        have hbb : (b == a) = false := beq_no hab
        clear hab
        have hn1 := fun W => run_neq2 W q b q a
        rw [show (!(q == q && b == a)) = true from by rw [hbb]; simp] at hn1
        have hn2 := fun W => run_neq2 W q b q b
        rw [show (!(q == q && b == b)) = false from by simp] at hn2
        clear hbb
        gi_wp2
        refine wpIn_region_quiet_round hro hmo (by kernel_rfl) (by kernel_rfl) ?_
        repeat (gi_big_quiet_step (fail))
        refine wpQuietIn_nil ?_
        intro _ hw'
        obtain ⟨nq, hw''⟩ := hw'
        subst hw''
        clear c0 c1 g0 g1 d0 d1 d2 d3 d4 f3 f4
        obtain ⟨W1, hW1⟩ : ∃ W1, Hid (W.drewN nq = W1) := ⟨_, Lib.hid rfl⟩
        have HK : Hid (KeepsOthers W W1 ∧ Below w.heap.size W W1) := by rw [← hW1.out]; exact Lib.hid ⟨⟨Nat.le_refl _, fun _ _ h _ => h⟩, ⟨rfl, rfl, rfl, Nat.le_refl _, fun _ _ => rfl⟩⟩
        have G4 : Hid (Blk W1 (w.heap.size + 1 + 1 + 1) 4 #[.bool false]) := by rw [← hW1.out]; exact HI4
        rw [hW1.out]
        have d3 : W1.cell? ⟨w.heap.size + 1 + 1 + 1, 0, none⟩ = some (.bool false) := G4.out.at_ 0
        have f3 := G4.out.free 0
        gi_wp2
        refine ⟨?_, ⟨rfl, fun h => absurd h hne.out⟩, ?_⟩
        · exact (HK.out.1.trans (KeepsOthers.setCell _ _ _)).from _
        · exact (HB.out.trans HK.out.2).setCell (by simp; omega) _
    · have hne : Hid (¬ placesG (pre ++ [(⟨(xi, p, a), hx⟩ : Gt)]) = List.range (pre ++ [(⟨(xi, p, a), hx⟩ : Gt)]).length) := Lib.hid fun h => by
        have h1 : xi = pre.length := placesG_last h
        subst h1
        have h2 := hx.out
        rw [show gp[((pre.length, p, a) : Nat × Int × Int).1]? = some (q, b) from HQ.out] at h2
        exact hpq (Prod.mk.inj (Option.some.inj h2)).1
      have hbb : (q == p) = false := beq_no hpq
      clear hpq
      have hn1 := fun W => run_neq2 W q b p a
      rw [show (!(q == p && b == a)) = true from by rw [hbb]; rfl] at hn1
      clear hbb
      gi_wp2
      refine wpIn_region_quiet_round hro hmo (by kernel_rfl) (by kernel_rfl) ?_
      repeat (gi_big_quiet_step (fail))
      refine wpQuietIn_nil ?_
      intro _ hw'
      obtain ⟨nq, hw''⟩ := hw'
      subst hw''
      clear c0 c1 g0 g1 d0 d1 d2 d3 d4 f3 f4
      obtain ⟨W1, hW1⟩ : ∃ W1, Hid (W.drewN nq = W1) := ⟨_, Lib.hid rfl⟩
      have HK : Hid (KeepsOthers W W1 ∧ Below w.heap.size W W1) := by rw [← hW1.out]; exact Lib.hid ⟨⟨Nat.le_refl _, fun _ _ h _ => h⟩, ⟨rfl, rfl, rfl, Nat.le_refl _, fun _ _ => rfl⟩⟩
      have G4 : Hid (Blk W1 (w.heap.size + 1 + 1 + 1) 4 #[.bool false]) := by rw [← hW1.out]; exact HI4
      rw [hW1.out]
      have d3 : W1.cell? ⟨w.heap.size + 1 + 1 + 1, 0, none⟩ = some (.bool false) := G4.out.at_ 0
      have f3 := G4.out.free 0
      gi_wp2
      refine ⟨?_, ⟨rfl, fun h => absurd h hne.out⟩, ?_⟩
      · exact (HK.out.1.trans (KeepsOthers.setCell _ _ _)).from _
      · exact (HB.out.trans HK.out.2).setCell (by simp; omega) _
  case done =>
    rintro D ys W hD hS ⟨⟨i1, i2, i3, i4, i5⟩, hB⟩ hK
    have hyl : ys.length = 6 := by
      have := congrArg List.length hS
      simpa [placesG] using this
    rw [hyl] at i5
    have d0 : W.cell? ⟨w.heap.size, 0, none⟩ = some (.slice wad 6 wc) := i1.at_ 0
    have d3 : W.cell? ⟨w.heap.size + 1 + 1 + 1, 0, none⟩ = some (.bool false) := i4.at_ 0
    have d4 : W.cell? ⟨w.heap.size + 1 + 1 + 1 + 1, 0, none⟩ = some (.int .i64 6) := i5.at_ 0
    have f3 := i4.free 0
    have HI4 := Lib.hid i4
    have HB := Lib.hid hB
    have HKK := Lib.hid hK
    have HD := Lib.hid hD
    clear i1 i2 i3 i4 i5 hB hS hK hyl hD
    gi_wp2
    have hK' := (KeepsOthers.setCell W ⟨w.heap.size + 1 + 1 + 1, 0, none⟩ (.bool true)).same D _ HKK.out rfl
    refine ⟨by simp, .inl ⟨_, _, rfl, run_takeDeferred hK', ?_⟩⟩
    have hc5 : Blk ((W.setCell ⟨w.heap.size + 1 + 1 + 1, 0, none⟩ (.bool true)).putObj D (.deferred none)) (w.heap.size + 1 + 1 + 1) 4 #[.bool true] := blk_own _ _ (fun _ : Unit => _) () _ _ _ (HI4.out.set (j := 0) (.bool true)) (grownBy_putObj' _ D (.deferred none)) (fun r e => by cases e; exact ⟨_, hK', rfl⟩)
    have hc6 : ((W.setCell ⟨w.heap.size + 1 + 1 + 1, 0, none⟩ (.bool true)).putObj D (.deferred none)).cell? ⟨w.heap.size + 1 + 1 + 1, 0, none⟩ = some (.bool true) := hc5.at_ 0
    refine ⟨.bool true, ?_, rfl, ?_⟩
    · simp [results, Try.f12, go_sem, hc6]
    · exact (HB.out.setCell (p := ⟨w.heap.size + 1 + 1 + 1, 0, none⟩) (by simp; omega) _).trans (belowK_b (w := w) (Nat.le_refl _) _ D _ _ (Nat.le_trans b0.out.2.size HD.out) hK' rfl rfl)
  case stop =>
    rintro D c pre W hD ⟨k, hk⟩ ⟨⟨rfl, hx⟩, hB⟩ hK
    have hkl : pre.length = k := by
      have := congrArg List.length hk
      simpa [placesG] using this
    rw [← hkl] at hk
    have hb := hx hk
    have HBb := Lib.hid hb
    have HB := Lib.hid hB
    have HKK := Lib.hid hK
    have HD := Lib.hid hD
    clear hb hB hK hD hx hk hkl
    gi_wp2
    refine ⟨by simp, .inl ⟨_, _, rfl, run_takeDeferred HKK.out, ?_⟩⟩
    have hc5 : Blk (W.putObj D (.deferred none)) (w.heap.size + 1 + 1 + 1) 4 #[.bool true] := blk_own _ _ (fun _ : Unit => _) () _ _ _ HBb.out (grownBy_putObj' _ D (.deferred none)) (fun r e => by cases e; exact ⟨_, HKK.out, rfl⟩)
    have hc6 : (W.putObj D (.deferred none)).cell? ⟨w.heap.size + 1 + 1 + 1, 0, none⟩ = some (.bool true) := hc5.at_ 0
    refine ⟨.bool true, ?_, rfl, ?_⟩
    · simp [results, Try.f12, go_sem, hc6]
    · exact HB.out.trans (belowK_b (w := w) (Nat.le_refl _) _ D _ _ (Nat.le_trans b0.out.2.size HD.out) HKK.out rfl rfl)
theorem walked_any (wad : Option Addr) (wc : Nat) (gad : Option Addr) (gc : Nat) (st : Int) (w : World) (hR : EQ.Rd w w.heap.size wad gp) (hG : EQ.Rd w w.heap.size gad gp) :
    Calls Try.prog 12 #[.slice wad 6 wc, .slice gad 6 gc, .func (.func 26) #[] #[], .int .i64 st] w fun e w' => e = .returned (.bool true) ∧ Below w.heap.size w w' :=
  (callsIn_wide (n := 3)).1 (walked_in wad wc gad gc st w hR hG)
end Go.Proofs.Ytfemggdbgibgaaa
