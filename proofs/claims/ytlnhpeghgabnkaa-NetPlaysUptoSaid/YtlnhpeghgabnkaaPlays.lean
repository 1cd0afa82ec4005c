/-
  Layer 25: the walk of NetPlays.
-/
import Derived.Test.YtlnhpeghgabnkaaStep
namespace Go.Proofs.Ytlnhpeghgabnkaa
open Go.RowKit
attribute [local go_sem ↓] Go.wp_at_zero Go.wp_at_succ

/-- Two Nets and the reference's two lists; no call on the one changes the other's. -/
structure Two (w : World) (B ba bb : Nat) (va vb vx vy : Value) (X Y : List Pk) : Prop where
  na : NetAt w B ba va X
  ox : EP.Own w B vx X
  ax : Apart va vx
  nb : NetAt w B bb vb Y
  oy : EP.Own w B vy Y
  ay : Apart vb vy
  ne : ba ≠ bb
  ab : Apart va vb
  a_y : Apart va vy
  b_x : Apart vb vx
theorem Two.swap {w : World} {B ba bb : Nat} {va vb vx vy : Value} {X Y : List Pk} (h : Two w B ba bb va vb vx vy X Y) : Two w B bb ba vb va vy vx Y X :=
  ⟨h.nb, h.oy, h.ay, h.na, h.ox, h.ax, h.ne.symm, h.ab.symm, h.b_x, h.a_y⟩
theorem Two.below {w w' : World} {B ba bb : Nat} {va vb vx vy : Value} {X Y : List Pk} (h : Two w B ba bb va vb vx vy X Y) (hb : Below w.heap.size w w') : Two w' B ba bb va vb vx vy X Y :=
  ⟨h.na.below hb, h.ox.below hb (Nat.le_refl _), h.ax, h.nb.below hb, h.oy.below hb (Nat.le_refl _), h.ay, h.ne, h.ab, h.a_y, h.b_x⟩
theorem Two.alloc {w : World} {B ba bb : Nat} {va vb vx vy : Value} {X Y : List Pk} (h : Two w B ba bb va vb vx vy X Y) (o : Obj) : Two (w.alloc o) B ba bb va vb vx vy X Y := h.below ((Below.refl _ _).alloc (Nat.le_refl _) _)
theorem Two.step {w w' : World} {B ba bb : Nat} {va vb vx vx' vy : Value} {X X' Y : List Pk} (h : Two w B ba bb va vb vx vy X Y) (hg : StepGo B ba va vx vx' X' w w') : ∃ va', Two w' B ba bb va' vb vx' vy X' Y := by
  obtain ⟨va', h1, h2, h3, hu, hf, hx⟩ := hg
  refine ⟨va', h1, h2, h3, h.nb.upd hu (fun e => ?_) (fun g hg e => ?_), h.oy.upd hu (fun g hg e => ?_), h.ay, h.ne, (h.ab.symm.lies hf fun k hk => (h.nb.own.lt k hk).2).symm, (h.a_y.symm.lies hf fun k hk => (h.oy.lt k hk).2).symm, h.b_x.lies hx fun k hk => (h.nb.own.lt k hk).2⟩
  · rcases e with e | e
    · exact h.ne e.symm
    · exact h.na.own.apart h.nb.blk (by decide) e
  · rcases e with rfl | e
    · exact h.nb.own.apart h.na.blk (by decide) hg
    · exact h.ab g e hg
  · rcases e with rfl | e
    · exact h.oy.apart h.na.blk (by decide) hg
    · exact h.a_y g e hg
theorem StepGo.on {w0 w w' : World} {B bn : Nat} {v vh vh' : Value} {l l' : List Pk} (h : NetAt w B bn v l) (hg : StepGo B bn v vh vh' l' w w') (hB : Below B w0 w) (hB0 : B ≤ w0.heap.size) : Below B w0 w' := by
  obtain ⟨_, _, _, _, hu, _, _⟩ := hg
  refine hB.trans (hu.below B (Nat.le_trans hB0 hB.size) fun k hk => ?_)
  rcases hk with rfl | hk
  · exact h.base
  · exact (h.own.lt k hk).1
/-- Where the loop stands. -/
def Pl (w : World) (ba bb : Nat) (wr : World) (ops : List Opv) (k : Nat) (vx vy : Value) : Prop :=
  ∃ (va vb : Value) (X Y : List Pk), Two wr w.heap.size ba bb va vb vx vy X Y ∧ X.length + Y.length ≤ opSum (ops.take k) ∧ Below w.heap.size w wr
set_option maxRecDepth 100000 in
set_option maxHeartbeats 16000000 in
theorem plays_law (ad : Option Addr) (n cap : Nat) (ops : List Opv) (w : World) (hn : ops.length = n) (hr : EO.Rd w w.heap.size ad ops) (hok : ∀ o ∈ ops, OpOk w o) (hsum : opSum ops ≤ 16777216) :
    Calls Try.prog 3 #[.slice ad n cap] w fun e w' => e = .returned (.bool true) ∧ Below w.heap.size w w' := by
  have hn5 : n ≤ 16777216 := by
    have : ops.length ≤ opSum ops := by
      clear hn hr hok hsum
      induction ops with
      | nil => simp [opSum]
      | cons o l ih => simp [opSum] at ih ⊢; omega
    omega
  have HR := Lib.hid hr
  have HN := Lib.hid hn
  have HOK := Lib.hid hok
  have HS := Lib.hid hsum
  clear hn hr hok hsum
  go_enter Try.func3, Try.ntmps3
  go_wp2_with fail
  refine (fixed_any _).mono ?_
  rintro e w1 ⟨rfl, hb⟩
  have HB1 := Lib.hid hb
  clear hb
  go_wp2_with fail
  refine (new_any w1).mono ?_
  rintro e w9 ⟨rfl, rfl⟩
  obtain ⟨w2, hw2⟩ : ∃ W, Hid (w1.alloc (.cells #[.slice none 0 0] 57) = W) := ⟨_, Lib.hid rfl⟩
  have hA2 : Hid (NetAt w2 w.heap.size w1.heap.size (.slice none 0 0) []) := by rw [← hw2.out]; exact Lib.hid (net_new w1 w.heap.size HB1.out.size)
  have HB2 : Hid (Below w.heap.size w w2) := by rw [← hw2.out]; exact Lib.hid (HB1.out.alloc HB1.out.size _)
  rw [hw2.out]
  go_wp2_with fail
  refine (new_any w2).mono ?_
  rintro e w9 ⟨rfl, rfl⟩
  obtain ⟨w3, hw3⟩ : ∃ W, Hid (w2.alloc (.cells #[.slice none 0 0] 57) = W) := ⟨_, Lib.hid rfl⟩
  have hA3 : Hid (NetAt w3 w.heap.size w2.heap.size (.slice none 0 0) []) := by rw [← hw3.out]; exact Lib.hid (net_new w2 w.heap.size HB2.out.size)
  have hA4 : Hid (NetAt w3 w.heap.size w1.heap.size (.slice none 0 0) []) := by rw [← hw3.out]; exact Lib.hid (hA2.out.alloc _)
  have HB3 : Hid (Below w.heap.size w w3) := by rw [← hw3.out]; exact Lib.hid (HB2.out.alloc HB2.out.size _)
  have hne : Hid (w1.heap.size ≠ w2.heap.size) := Lib.hid (by rw [← hw2.out, World.size_alloc]; omega)
  have hT3 : Hid (Two w3 w.heap.size w1.heap.size w2.heap.size (.slice none 0 0) (.slice none 0 0) (.slice none 0 0) (.slice none 0 0) [] []) := Lib.hid ⟨hA4.out, Elt.Own.nil _ _ _, Apart.nil _ _ _, hA3.out, Elt.Own.nil _ _ _, Apart.nil _ _ _, hne.out, Apart.nil _ _ _, Apart.nil _ _ _, Apart.nil _ _ _⟩
  rw [hw3.out]
  clear hA2 hA3 hA4 HB2 hne
  go_wp2_with fail
  go_loopw [5, 6, 22] (fun v5 v6 i wr => ∃ (k : Nat) (xad yad : Option Addr) (nx cx ny cy : Nat), k ≤ n ∧ i = .int .i64 k ∧ v5 = .slice xad nx cx ∧ v6 = .slice yad ny cy ∧ Hid (Pl w w1.heap.size w2.heap.size wr ops k (.slice xad nx cx) (.slice yad ny cy))) (fun _ _ i _ => n - (intOf i).toNat)
  case atStart =>
    exact ⟨0, _, _, _, _, _, _, by omega, rfl, rfl, rfl, Lib.hid ⟨_, _, _, _, hT3.out, Nat.zero_le _, HB3.out⟩⟩
  case round =>
    obtain ⟨k, xad, yad, nx, cx, ny, cy, hk, rfl, rfl, rfl, hO⟩ := hrel
    clear hT3 HB3 HB1 hw2 hw3
    by_cases hkn : k < n
    · have hkn2 : (k : Int) < (n : Int) := by omega
      obtain ⟨va, vb, X, Y, hT, hXY, hB⟩ := hO.out
      obtain ⟨o, ho⟩ : ∃ o, Hid (ops[k]? = some o) := ⟨ops[k]'(by rw [HN.out]; exact hkn), Lib.hid (by simp)⟩
      obtain ⟨b, off, rfl, hblt, c0, c1, c2, c3, c4, c5, c6⟩ := rdO (HR.out.below hB (Nat.le_refl _)) k o ho.out
      have hblt2 : b < wr.heap.size := Nat.lt_of_lt_of_le hblt hB.size
      have HOo := Lib.hid (HOK.out o (List.mem_of_getElem? ho.out))
      have HSM := Lib.hid (show X.length + Y.length + o.ln + 1 ≤ opSum (ops.take (k + 1)) ∧ X.length + Y.length + o.ln + 1 ≤ 16777216 from by
        have h1 := opSum_take ops k o ho.out
        have h2 := opSum_le ops (k + 1)
        have h3 := HS.out
        exact ⟨by omega, by omega⟩)
      obtain ⟨ok, os, oi, la, ln, lc, ⟨oar, oak, oat⟩, ms⟩ := o
      dsimp only at c0 c1 c2 c3 c4 c5 c6 HSM
      cases os
      · have HT := Lib.hid (hT.alloc (.cells #[.int .i64 ok, .bool false, .int .i64 oi, .slice la ln lc, .int .i64 oar, .int .i64 oak, .string oat] 31))
        have HB := Lib.hid (hB.alloc hB.size (.cells #[.int .i64 ok, .bool false, .int .i64 oi, .slice la ln lc, .int .i64 oar, .int .i64 oak, .string oat] 31))
        clear hT hXY hB hO hblt
        go_wp2_with fail
        refine (step_any w w.heap.size w1.heap.size nx cx va X xad ⟨ok, false, oi, la, ln, lc, ⟨oar, oak, oat⟩, ms⟩ _ rfl HB.out HT.out.na HT.out.ox HT.out.ax HOo.out (by have := HSM.out; dsimp only; omega)).mono ?_
        rintro e w4 ⟨ad', n', c', l', rfl, hg, hl⟩
        obtain ⟨va', hT4⟩ := HT.out.step hg
        have HT4 := Lib.hid hT4
        have HB4 := Lib.hid (StepGo.on HT.out.na hg HB.out (Nat.le_refl _))
        have HL4 := Lib.hid hl
        clear hT4 hg hl c0 c1 c2 c3 c4 c5 c6
        go_wp2_with fail
        go_roundw
        case rel => exact ⟨k + 1, _, _, _, _, _, _, by omega, by go_num, rfl, rfl, Lib.hid ⟨va', vb, l', Y, HT4.out, by have h1 := HSM.out; have h2 := HL4.out; omega, HB4.out⟩⟩
        case measure => simp [intOf]; omega
      · have HT := Lib.hid (hT.alloc (.cells #[.int .i64 ok, .bool true, .int .i64 oi, .slice la ln lc, .int .i64 oar, .int .i64 oak, .string oat] 31))
        have HB := Lib.hid (hB.alloc hB.size (.cells #[.int .i64 ok, .bool true, .int .i64 oi, .slice la ln lc, .int .i64 oar, .int .i64 oak, .string oat] 31))
        clear hT hXY hB hO hblt
        go_wp2_with fail
        refine (step_any w w.heap.size w2.heap.size ny cy vb Y yad ⟨ok, true, oi, la, ln, lc, ⟨oar, oak, oat⟩, ms⟩ _ rfl HB.out HT.out.nb HT.out.oy HT.out.ay HOo.out (by have := HSM.out; dsimp only; omega)).mono ?_
        rintro e w4 ⟨ad', n', c', l', rfl, hg, hl⟩
        obtain ⟨vb', hT4⟩ := HT.out.swap.step hg
        have HT4 := Lib.hid hT4.swap
        have HB4 := Lib.hid (StepGo.on HT.out.nb hg HB.out (Nat.le_refl _))
        have HL4 := Lib.hid hl
        clear hT4 hg hl c0 c1 c2 c3 c4 c5 c6
        go_wp2_with fail
        go_roundw
        case rel => exact ⟨k + 1, _, _, _, _, _, _, by omega, by go_num, rfl, rfl, Lib.hid ⟨va, vb', X, l', HT4.out, by have h1 := HSM.out; have h2 := HL4.out; omega, HB4.out⟩⟩
        case measure => simp [intOf]; omega
    · have hkn2 : ¬ (k : Int) < (n : Int) := by omega
      obtain ⟨va, vb, X, Y, hT, hXY, hB⟩ := hO.out
      have HT := Lib.hid hT
      have HB := Lib.hid hB
      have HXY := Lib.hid (show X.length + Y.length ≤ 16777216 from by
        have h2 := opSum_le ops k
        have h3 := HS.out
        omega)
      clear hT hB hO hXY
      go_wp2_with fail
      refine (told_any w.heap.size w1.heap.size va X xad nx cx _ HT.out.na HT.out.ox.len_eq.1 HT.out.ox.rd (by have := HXY.out; omega)).mono ?_
      rintro e w4 ⟨rfl, hb⟩
      have HT4 := Lib.hid (HT.out.below hb)
      have HB4 := Lib.hid (HB.out.trans (hb.mono HB.out.size))
      clear hb HT HB
      go_wp2_with fail
      refine (told_any w.heap.size w2.heap.size vb Y yad ny cy _ HT4.out.nb HT4.out.oy.len_eq.1 HT4.out.oy.rd (by have := HXY.out; omega)).mono ?_
      rintro e w5 ⟨rfl, hb⟩
      have HB5 := Lib.hid (HB4.out.trans (hb.mono HB4.out.size))
      clear hb
      go_wp2_with fail
      go_ret
      exact ⟨rfl, HB5.out⟩
end Go.Proofs.Ytlnhpeghgabnkaa
