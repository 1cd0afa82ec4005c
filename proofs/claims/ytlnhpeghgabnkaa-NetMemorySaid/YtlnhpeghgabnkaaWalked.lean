/-
  Layer 25: walked: an iterator tells just these packets.
-/
import Derived.Test.YtlnhpeghgabnkaaIt
import Derived.Test.YtlnhpeghgabnkaaRound
import Derived.Shelf.RegionOpen
import Derived.Shelf.Abstract
namespace Go.Proofs.Ytlnhpeghgabnkaa
open Go.RowKit
attribute [local go_sem] Oper.semAt_some

theorem blk_own {β : Type} (B : Nat) (t : TypeId) (cs : β → Array Value) : Own (fun s W => Blk W B t (cs s)) := fun s X Y row hs hg hrow =>
  (hg.block B hs.lt (fun e' => by obtain ⟨o, ho, hc⟩ := hrow B e'.symm; rw [show X.heap[B]? = _ from hs] at ho; cases ho; cases hc)).trans hs
theorem places_snoc {ps : List Pk} (pre : List (At ps)) (x : At ps) : places (pre ++ [x]) = places pre ++ [x.1.1] := by simp [places]
theorem places_last {ps : List Pk} {pre : List (At ps)} {x : At ps} (h : places (pre ++ [x]) = List.range (pre ++ [x]).length) : x.1.1 = pre.length := by
  rw [places_snoc, List.length_append, List.length_singleton, List.range_succ] at h
  have := (List.append_inj' h rfl).2
  simpa using this
/-- Where the body of walked stands. -/
def wkI (w : World) (ad : Option Addr) (m cap : Nat) (st : Int) {ps : List Pk} (pre : List (At ps)) (W : World) : Prop :=
  (Blk W w.heap.size 26 #[.slice ad m cap] ∧ Blk W (w.heap.size + 1) 3 #[.int .i64 st] ∧ Blk W (w.heap.size + 1 + 1) 4 #[.bool false] ∧ Blk W (w.heap.size + 1 + 1 + 1) 3 #[.int .i64 (pre.length : Int)]) ∧ Below w.heap.size w W
def wkX (w : World) {ps : List Pk} (c : Code) (pre : List (At ps)) (W : World) : Prop :=
  (c = .ret ∧ (places pre = List.range pre.length → Blk W (w.heap.size + 1 + 1) 4 #[.bool true])) ∧ Below w.heap.size w W
theorem wkI_own (w : World) (ad : Option Addr) (m cap : Nat) (st : Int) (ps : List Pk) (B : Nat) (hB : w.heap.size ≤ B) : OwnFrom B (wkI w ad m cap st (ps := ps)) :=
  OwnFrom.and (Own.from (fun _ X Y row hs hg hr => ⟨blk_own _ _ (fun _ : Unit => _) () X Y row hs.1 hg hr, blk_own _ _ (fun _ : Unit => _) () X Y row hs.2.1 hg hr, blk_own _ _ (fun _ : Unit => _) () X Y row hs.2.2.1 hg hr, blk_own _ _ (fun _ : Unit => _) () X Y row hs.2.2.2 hg hr⟩) _) (ownFrom_below (Nat.le_refl _) hB)
theorem wkX_own (w : World) (ps : List Pk) (c : Code) (B : Nat) (hB : w.heap.size ≤ B) : OwnFrom B (wkX w c (ps := ps)) :=
  OwnFrom.and (Own.from (fun _ X Y row hs hg hr => ⟨hs.1, fun h => blk_own _ _ (fun _ : Unit => _) () X Y row (hs.2 h) hg hr⟩) _) (ownFrom_below (Nat.le_refl _) hB)
def wkA (w : World) (bx : Nat) (ad : Option Addr) (m cap : Nat) (st : Int) {ps : List Pk} (x : At ps) (a' : Act) (W : World) : Prop :=
  ∃ Bx, w.heap.size + 1 + 1 + 1 < Bx ∧ Blk W Bx 40 x.1.2.cs.toArray ∧ a' = { tmps := #[.func (.func 29) #[] #[.pointer (some ⟨bx, 0, none⟩)], .slice ad m cap, .int .i64 st, undef, .pointer (some ⟨w.heap.size, 0, none⟩), .pointer (some ⟨w.heap.size + 1, 0, none⟩), .pointer (some ⟨w.heap.size + 1 + 1, 0, none⟩), .pointer (some ⟨w.heap.size + 1 + 1 + 1, 0, none⟩), .int .i64 (x.1.1 : Int), .pointer (some ⟨Bx, 0, none⟩),
    .func (.func 29) #[] #[.pointer (some ⟨bx, 0, none⟩)], .int .i64 (x.1.1 : Int), .agg x.1.2.cs.toArray, undef, undef, undef, undef, undef, undef, undef, undef, undef, undef, undef, undef, undef, undef, undef, undef, undef, undef, undef, undef, undef, undef, undef, undef, undef, undef], defers := [] }
set_option maxRecDepth 100000 in
set_option maxHeartbeats 8000000 in
theorem walked_in (F : Fence) (n : Nat) (hf : F.fn 20) (hg : F.fn 29) (hro : F.round = none) (hn : 3 ≤ n) (bx : Nat) (ad : Option Addr) (m cap : Nat) (st : Int) (ps : List Pk) (hlen : ps.length ≤ 1759218604400) (hm : ps.length = m) (w : World) (hI : ItAt w bx ps) (hR : EP.Rd w w.heap.size ad ps) :
    CallsIn F n Try.prog 20 #[.func (.func 29) #[] #[.pointer (some ⟨bx, 0, none⟩)], .slice ad m cap, .int .i64 st] w fun e w' => e = .returned (.bool true) ∧ Below w.heap.size w w' := by
  have h1 : 1 ≤ n := by omega
  have h2 : 1 ≤ n - 1 := by omega
  have hmo : Try.prog.follows .mixedOrders = true := by kernel_rfl
  have HI := Lib.hid hI
  have HR := Lib.hid hR
  have HM := Lib.hid hm
  have HL := Lib.hid hlen
  have hmb : m ≤ 1759218604400 := by omega
  clear hI hR hm hlen
  refine callsIn_of_wp_marks Try.func20 rfl hf ?_ hro
  simp only [Try.ntmps20, List.size_toArray, List.length_cons, List.length_nil, Nat.reduceAdd, Nat.reduceSub, Array.replicate_succ, Array.replicate_zero, List.push_toArray, List.append_toArray, List.nil_append, List.cons_append]
  gi_wp2
  obtain ⟨W0, hW0⟩ : ∃ W0, Hid (((((w.alloc (.cells #[.slice ad m cap] 26)).alloc (.cells #[.int .i64 st] 3)).alloc (.cells #[.bool false] 4)).alloc (.cells #[.int .i64 0] 3)) = W0) := ⟨_, Lib.hid rfl⟩
  have b0 : Hid (wkI w ad m cap st (ps := ps) [] W0) := by
    rw [← hW0.out]
    have b1 := Blk.new (w.alloc (.cells #[.slice ad m cap] 26)) #[.int .i64 st] 3
    have b2 := Blk.new ((w.alloc (.cells #[.slice ad m cap] 26)).alloc (.cells #[.int .i64 st] 3)) #[.bool false] 4
    have b3 := Blk.new (((w.alloc (.cells #[.slice ad m cap] 26)).alloc (.cells #[.int .i64 st] 3)).alloc (.cells #[.bool false] 4)) #[.int .i64 0] 3
    simp only [World.size_alloc] at b1 b2 b3
    exact Lib.hid ⟨⟨(((Blk.new _ _ _).alloc _).alloc _).alloc _, (b1.alloc _).alloc _, b2.alloc _, b3⟩, ((((Below.refl _ _).alloc (Nat.le_refl _) _).alloc (by simp) _).alloc (by simp; omega) _).alloc (by simp; omega) _⟩
  have hsz : Hid (W0.heap.size = w.heap.size + 4) := by rw [← hW0.out]; exact Lib.hid (by simp)
  rw [hW0.out]
  refine wpIn_rangeFunc_ownH hro h1 (gf := 29) (lb := #[.pointer (some ⟨bx, 0, none⟩)]) rfl hg (enters_of Try.func29 (by kernel_rfl) rfl)
    (all_stops F (n - 1) hg hro h2 bx w.heap.size ps HL.out w W0 HI.out b0.out.2 rfl) belowK_t (belowK_b b0.out.2.size) (Below.refl _ _) (fun _ => rfl)
    (wkI w ad m cap st) (fun c => wkX w c) (wkI_own w ad m cap st ps _ b0.out.2.size) (fun c => wkX_own w ps c _ b0.out.2.size) b0.out
    (wkA w bx ad m cap st) (fun x a' _ X Y row hs hg hr => by obtain ⟨Bx, q1, q2, q3⟩ := hs; exact ⟨Bx, q1, (Own.from (blk_own Bx _ (fun _ : Unit => _)) _) () X Y row q2 hg hr, q3⟩) ?assign ?body ?done ?stop
  case assign =>
    rintro l pre x W K ⟨⟨i1, i2, i3, i4⟩, hB⟩ hK
    obtain ⟨⟨xi, ⟨pb, ⟨mr, mk, mt, ma, mm, mc, mp⟩, ⟨ar, ak, at'⟩⟩⟩, hx⟩ := x
    dsimp only [encAt, Pk.cs]
    have HK := Lib.hid hK
    have HI1 := Lib.hid i1
    have HI2 := Lib.hid i2
    have HI3 := Lib.hid i3
    have HI4 := Lib.hid i4
    have HB := Lib.hid hB
    clear hK i1 i2 i3 i4 hB
    gi_wp2
    refine HK.out _ _ ((KeepsOthers.alloc _ _).from _) ((Below.refl _ W).alloc HB.out.size _) ⟨⟨HI1.out.alloc _, HI2.out.alloc _, HI3.out.alloc _, HI4.out.alloc _⟩, HB.out.alloc HB.out.size _⟩ ⟨W.heap.size, HI4.out.lt, Blk.new _ _ _, rfl⟩
  case body =>
    rintro l pre ⟨⟨xi, p⟩, hx⟩ a' W hl hr ⟨⟨i1, i2, i3, i4⟩, hB⟩ ⟨Bx, q1, q2, rfl⟩ hlt
    have d0 : W.cell? ⟨w.heap.size, 0, none⟩ = some (.slice ad m cap) := i1.at_ 0
    have d1 : W.cell? ⟨w.heap.size + 1, 0, none⟩ = some (.int .i64 st) := i2.at_ 0
    have d2 : W.cell? ⟨w.heap.size + 1 + 1, 0, none⟩ = some (.bool false) := i3.at_ 0
    have d3 : W.cell? ⟨w.heap.size + 1 + 1 + 1, 0, none⟩ = some (.int .i64 (pre.length : Int)) := i4.at_ 0
    have f2 := i3.free 0
    have f3 := i4.free 0
    dsimp only [Pk.cs] at q2
    obtain ⟨e0, e1, e2, e3, e4, e5, e6, e7, e8, e9, e10⟩ := pk_cells q2
    have HI1 := Lib.hid i1
    have HI2 := Lib.hid i2
    have HI3 := Lib.hid i3
    have HI4 := Lib.hid i4
    have HB := Lib.hid hB
    have HQ := Lib.hid q2
    have hkl : pre.length < m := by rw [← HM.out]; exact hlt
    have hkl2 : (pre.length : Int) < (m : Int) := by omega
    have hdk : decide (m ≤ pre.length) = false := decide_eq_false (by omega)
    clear hl hr i1 i2 i3 i4 hB q2 hlt
    have hXo : Hid (w.heap.size ≤ W0.heap.size) := Lib.hid b0.out.2.size
    by_cases hxi : xi = pre.length
    · subst hxi
      obtain ⟨b, off, rfl, hblt, c0, c1, c2, c3, c4, c5, c6, c7, c8, c9, c10⟩ := rdP (HR.out.below HB.out (Nat.le_refl _)) pre.length p hx.out
      have hne : (((pre.length : Int)) != (pre.length : Int)) = false := by simp
      have hblt2 : b < W.heap.size := Nat.lt_of_lt_of_le hblt HB.out.size
      dsimp only [Pk.cs]
      clear hblt
      gi_wp2
      refine wpIn_region_quiet_round hro hmo (by kernel_rfl) (by kernel_rfl) ?_
      repeat (gi_big_quiet_step (fail))
      refine wpQuietIn_nil ?_
      intro _ hw'
      obtain ⟨nq, hw''⟩ := hw'
      subst hw''
      clear e0 e1 e2 e3 e4 e5 e6 e7 e8 e9 e10 c0 c1 c2 c3 c4 c5 c6 c7 c8 c9 c10 d0 d1 d2 d3 f2 f3
      obtain ⟨W1, hW1⟩ : ∃ W1, Hid (W.drewN nq = W1) := ⟨_, Lib.hid rfl⟩
      have HK : Hid (KeepsOthers W W1 ∧ Below w.heap.size W W1) := by rw [← hW1.out]; exact Lib.hid ⟨⟨Nat.le_refl _, fun _ _ h _ => h⟩, ⟨rfl, rfl, rfl, Nat.le_refl _, fun _ _ => rfl⟩⟩
      have G1 : Hid (Blk W1 w.heap.size 26 #[.slice (some ⟨b, off, none⟩) m cap]) := by rw [← hW1.out]; exact HI1
      have G2 : Hid (Blk W1 (w.heap.size + 1) 3 #[.int .i64 st]) := by rw [← hW1.out]; exact HI2
      have G3 : Hid (Blk W1 (w.heap.size + 1 + 1) 4 #[.bool false]) := by rw [← hW1.out]; exact HI3
      have G4 : Hid (Blk W1 (w.heap.size + 1 + 1 + 1) 3 #[.int .i64 (pre.length : Int)]) := by rw [← hW1.out]; exact HI4
      rw [hW1.out]
      have d1 : W1.cell? ⟨w.heap.size + 1, 0, none⟩ = some (.int .i64 st) := G2.out.at_ 0
      have d2 : W1.cell? ⟨w.heap.size + 1 + 1, 0, none⟩ = some (.bool false) := G3.out.at_ 0
      have d3 : W1.cell? ⟨w.heap.size + 1 + 1 + 1, 0, none⟩ = some (.int .i64 (pre.length : Int)) := G4.out.at_ 0
      have f2 := G3.out.free 0
      have f3 := G4.out.free 0
      by_cases hst : (pre.length : Int) + 1 = st
      · have hstb : ((pre.length : Int) + 1 == st) = true := beq_iff_eq.2 hst
        have HST := Lib.hid hst
        clear hst
        gi_wp2
        refine ⟨?_, ⟨rfl, fun _ => ?_⟩, ?_⟩
        · exact ((HK.out.1.trans (KeepsOthers.setCell _ _ _)).trans (KeepsOthers.setCell _ _ _)).from _
        · exact ((G3.out.other (by simp) _).set _)
        · exact ((HB.out.trans HK.out.2).setCell (by simp; omega) _).setCell (by simp; omega) _
      · have hstb : ((pre.length : Int) + 1 == st) = false := beq_eq_false_iff_ne.2 hst
        have HST := Lib.hid hst
        clear hst
        gi_wp2
        refine ⟨?_, ?_, ⟨⟨?_, ?_, ?_, ?_⟩, ?_⟩⟩
        · exact (HK.out.1.trans (KeepsOthers.setCell _ _ _)).from _
        · exact HK.out.2.setCell (by simp; omega) _
        · exact G1.out.other (by simp; omega) _
        · exact G2.out.other (by simp) _
        · exact G3.out.other (by simp) _
        · have := G4.out.set (j := 0) (.int .i64 ((pre.length : Int) + 1))
          rw [List.length_append, List.length_singleton]
          exact this
        · exact (HB.out.trans HK.out.2).setCell (by simp; omega) _
    · have hne : (((xi : Int)) != (pre.length : Int)) = true := bne_iff_ne.2 (by omega)
      have HX := Lib.hid hxi
      clear hxi
      dsimp only [Pk.cs]
      gi_wp2
      refine wpIn_region_quiet_round hro hmo (by kernel_rfl) (by kernel_rfl) ?_
      repeat (gi_big_quiet_step (fail))
      refine wpQuietIn_nil ?_
      intro _ hw'
      obtain ⟨nq, hw''⟩ := hw'
      subst hw''
      clear e0 e1 e2 e3 e4 e5 e6 e7 e8 e9 e10 d0 d1 d2 d3 f2 f3
      obtain ⟨W1, hW1⟩ : ∃ W1, Hid (W.drewN nq = W1) := ⟨_, Lib.hid rfl⟩
      have HK : Hid (KeepsOthers W W1 ∧ Below w.heap.size W W1) := by rw [← hW1.out]; exact Lib.hid ⟨⟨Nat.le_refl _, fun _ _ h _ => h⟩, ⟨rfl, rfl, rfl, Nat.le_refl _, fun _ _ => rfl⟩⟩
      have G3 : Hid (Blk W1 (w.heap.size + 1 + 1) 4 #[.bool false]) := by rw [← hW1.out]; exact HI3
      rw [hW1.out]
      have d2 : W1.cell? ⟨w.heap.size + 1 + 1, 0, none⟩ = some (.bool false) := G3.out.at_ 0
      have f2 := G3.out.free 0
      gi_wp2
      refine ⟨?_, ⟨rfl, fun h => absurd (places_last h) HX.out⟩, ?_⟩
      · exact (HK.out.1.trans (KeepsOthers.setCell _ _ _)).from _
      · exact (HB.out.trans HK.out.2).setCell (by simp; omega) _
  case done =>
    rintro D ys W hD hS ⟨⟨i1, i2, i3, i4⟩, hB⟩ hK
    have hyl : ys.length = m := by
      have := congrArg List.length hS
      simpa [places, HM.out] using this
    rw [hyl] at i4
    have d0 : W.cell? ⟨w.heap.size, 0, none⟩ = some (.slice ad m cap) := i1.at_ 0
    have d2 : W.cell? ⟨w.heap.size + 1 + 1, 0, none⟩ = some (.bool false) := i3.at_ 0
    have d3 : W.cell? ⟨w.heap.size + 1 + 1 + 1, 0, none⟩ = some (.int .i64 (m : Int)) := i4.at_ 0
    have f2 := i3.free 0
    have hmm : ((m : Int) == (m : Int)) = true := by simp
    have HI3 := Lib.hid i3
    have HB := Lib.hid hB
    have HS := Lib.hid hS
    have HKK := Lib.hid hK
    have HD := Lib.hid hD
    clear i1 i2 i3 i4 hB hS hK hyl hD
    gi_wp2
    have hK' := (KeepsOthers.setCell W ⟨w.heap.size + 1 + 1, 0, none⟩ (.bool true)).same D _ HKK.out rfl
    refine ⟨by simp, .inl ⟨_, _, rfl, run_takeDeferred hK', ?_⟩⟩
    have hc5 : Blk ((W.setCell ⟨w.heap.size + 1 + 1, 0, none⟩ (.bool true)).putObj D (.deferred none)) (w.heap.size + 1 + 1) 4 #[.bool true] := blk_own _ _ (fun _ : Unit => _) () _ _ _ (HI3.out.set (j := 0) (.bool true)) (grownBy_putObj' _ D (.deferred none)) (fun r e => by cases e; exact ⟨_, hK', rfl⟩)
    have hc6 : ((W.setCell ⟨w.heap.size + 1 + 1, 0, none⟩ (.bool true)).putObj D (.deferred none)).cell? ⟨w.heap.size + 1 + 1, 0, none⟩ = some (.bool true) := hc5.at_ 0
    refine ⟨.bool true, ?_, rfl, ?_⟩
    · simp [results, Try.f20, go_sem, hc6]
    · exact (HB.out.setCell (p := ⟨w.heap.size + 1 + 1, 0, none⟩) (by simp; omega) _).trans (belowK_b (w := w) (Nat.le_refl _) _ D _ _ (Nat.le_trans b0.out.2.size HD.out) hK' rfl rfl)
  case stop =>
    rintro D c pre W hD ⟨k, hk⟩ ⟨⟨rfl, hx⟩, hB⟩ hK
    have hkl : pre.length = k := by
      have := congrArg List.length hk
      simpa [places] using this
    rw [← hkl] at hk
    have hb := hx hk
    have HBb := Lib.hid hb
    have HB := Lib.hid hB
    have HKK := Lib.hid hK
    have HD := Lib.hid hD
    clear hb hB hK hD hx hk hkl
    gi_wp2
    refine ⟨by simp, .inl ⟨_, _, rfl, run_takeDeferred HKK.out, ?_⟩⟩
    have hc5 : Blk (W.putObj D (.deferred none)) (w.heap.size + 1 + 1) 4 #[.bool true] := blk_own _ _ (fun _ : Unit => _) () _ _ _ HBb.out (grownBy_putObj' _ D (.deferred none)) (fun r e => by cases e; exact ⟨_, HKK.out, rfl⟩)
    have hc6 : (W.putObj D (.deferred none)).cell? ⟨w.heap.size + 1 + 1, 0, none⟩ = some (.bool true) := hc5.at_ 0
    refine ⟨.bool true, ?_, rfl, ?_⟩
    · simp [results, Try.f20, go_sem, hc6]
    · exact HB.out.trans (belowK_b (w := w) (Nat.le_refl _) _ D _ _ (Nat.le_trans b0.out.2.size HD.out) HKK.out rfl rfl)
theorem walked_any (bx : Nat) (ad : Option Addr) (m cap : Nat) (st : Int) (ps : List Pk) (hlen : ps.length ≤ 1759218604400) (hm : ps.length = m) (w : World) (hI : ItAt w bx ps) (hR : EP.Rd w w.heap.size ad ps) :
    Calls Try.prog 20 #[.func (.func 29) #[] #[.pointer (some ⟨bx, 0, none⟩)], .slice ad m cap, .int .i64 st] w fun e w' => e = .returned (.bool true) ∧ Below w.heap.size w w' :=
  (callsIn_wide (n := 3)).1 (walked_in Fence.wide 3 trivial trivial rfl (by omega) bx ad m cap st ps hlen hm w hI hR)
end Go.Proofs.Ytlnhpeghgabnkaa
