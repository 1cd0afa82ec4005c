/-
  Layer 22: All's iterator, and walked: it tells just the good pairs.
-/
import Derived.Test.YtfemggdbgibgaaaPairs
import Derived.Test.YtfemggdbgibgaaaRound
import Derived.RangeFuncNested
import Derived.RangeFuncBound
import Derived.RangeFuncCalls
import Derived.RangeFuncLeaves
import Derived.RangeFuncBox
import Derived.OwnWalkIn
import Derived.TacticsInMore
import Derived.LoopNIn
import Derived.LoopIn
import Derived.ControlIn
import Derived.Shelf.RegionOpen
import Derived.Shelf.Abstract
namespace Go.Proofs.Ytfemggdbgibgaaa
open Go.RowKit
attribute [local go_sem] Oper.semAt_some

/-- A good pair with its place. -/
abbrev Gt : Type := { x : Nat × (Int × Int) // Hid (gp[x.1]? = some x.2) }
def encG (x : Gt) : Array Value := #[.int .i64 x.1.2.1, .int .i64 x.1.2.2]
def placesG (xs : List Gt) : List Nat := xs.map fun x => x.1.1
/-- What a round keeps: the blocks of cells from n on. -/
def Kq (n : Nat) (X Y : World) : Prop := X.heap.size ≤ Y.heap.size ∧ ∀ (k : Nat) (cs : Array Value) (t : TypeId) (m : Nat × Nat), n ≤ k → X.heap[k]? = some (.cells cs t m) → Y.heap[k]? = some (.cells cs t m)
theorem Kq.trans {n : Nat} {A B C : World} (h : Kq n A B) (k : Kq n B C) : Kq n A C := ⟨Nat.le_trans h.1 k.1, fun i cs t m hi hx => k.2 i cs t m hi (h.2 i cs t m hi hx)⟩
theorem Kq.refl (n : Nat) (A : World) : Kq n A A := ⟨Nat.le_refl _, fun _ _ _ _ _ h => h⟩
theorem Kq.putObj {n : Nat} (W : World) (l : Nat) (o o' : Obj) (h : W.heap[l]? = some o) (hc : o.isCells = false) : Kq n W (W.putObj l o') :=
  ⟨by simp, fun k cs t m _ hx => by
    have hk : k ≠ l := fun e => by subst e; rw [h] at hx; cases hx; cases hc
    rw [World.putObj_heap_other hk]
    exact hx⟩
theorem Kq.setCell {n : Nat} {A B : World} (h : Kq n A B) (a : Addr) (ha : a.block < n) (v : Value) : Kq n A (B.setCell a v) :=
  h.trans ⟨by simp [World.setCell], fun k cs t m hk hx => (Below.heap_setCell B a v k (by omega)).trans hx⟩
theorem Kq.drewN {n : Nat} (W : World) (j : Nat) : Kq n W (W.drewN j) := ⟨Nat.le_refl _, fun _ _ _ _ _ h => h⟩
theorem grow_at : ∀ k, k < 6 → ∃ p a, gp[k]? = some (p, a) ∧ grow[k * 2]? = some (.int .i64 p) ∧ grow[k * 2 + 1]? = some (.int .i64 a) := by
  intro k hk
  rcases (by omega : k = 0 ∨ k = 1 ∨ k = 2 ∨ k = 3 ∨ k = 4 ∨ k = 5) with rfl | rfl | rfl | rfl | rfl | rfl <;> exact ⟨_, _, rfl, rfl, rfl⟩
theorem gp_inj : ∀ i j, i < 6 → j < 6 → gp[i]? = gp[j]? → i = j := by
  intro i j hi hj
  rcases (by omega : i = 0 ∨ i = 1 ∨ i = 2 ∨ i = 3 ∨ i = 4 ∨ i = 5) with rfl | rfl | rfl | rfl | rfl | rfl <;>
    rcases (by omega : j = 0 ∨ j = 1 ∨ j = 2 ∨ j = 3 ∨ j = 4 ∨ j = 5) with rfl | rfl | rfl | rfl | rfl | rfl <;> decide
set_option maxRecDepth 100000 in
set_option maxHeartbeats 4000000 in
/-- The iterator, for every body that keeps the blocks from n₀ on. -/
theorem all1_in (n : Nat) (hn : 1 ≤ n) (l n₀ : Nat) (J Jx : List Gt → World → Prop) (W : World) (hJ : ∀ s X Y, J s X → Below X.heap.size X Y → J s Y)
    (hY : ∀ pre x W1, J pre W1 → pre.length < 6 → YieldAt Fence.wide (n - 1) Try.prog l (encG x) W1 fun e W' =>
      (e = .returned (.bool true) ∧ J (pre ++ [x]) W' ∧ Kq n₀ W1 W') ∨ (e = .returned (.bool false) ∧ Jx (pre ++ [x]) W'))
    (h0 : J [] W) (hn0 : n₀ ≤ W.heap.size) :
    CallsIn Fence.wide n Try.prog 26 #[.func (.yield l) #[] #[]] W fun e W' => (∃ v, e = .returned v) ∧
      ((∃ xs, placesG xs = List.range 6 ∧ J xs W') ∨ (∃ pre, (∃ k, placesG pre = List.range k) ∧ Jx pre W')) := by
  have hro : Fence.wide.round = none := rfl
  have HY := Lib.hid hY
  have HJ := Lib.hid hJ
  have H0 := Lib.hid h0
  have HN := Lib.hid hn0
  clear hY hJ h0 hn0
  refine callsIn_of_wp Try.func26 rfl trivial ?_ hro
  simp only [Try.ntmps26, List.size_toArray, List.length_cons, List.length_nil, Nat.reduceAdd, Nat.reduceSub, Array.replicate_succ, Array.replicate_zero, List.push_toArray, List.append_toArray, List.nil_append, List.cons_append]
  gi_wp2_with fail
  refine ⟨trivial, ?_⟩
  refine (callsIn_wide.2 (good_any _)).mono ?_
  rintro e w1 ⟨rfl, hb, hr⟩
  have HB1 := Lib.hid hb
  have HR1 := Lib.hid hr
  have HJ1 := Lib.hid (HJ.out _ _ _ H0.out hb)
  clear hb hr H0
  gi_wp2
  gi_loopw [6] (fun i wr => ∃ k : Nat, k ≤ 6 ∧ i = .int .i64 k ∧ Hid (∃ pre, placesG pre = List.range k ∧ J pre wr) ∧ Hid (Row wr W.heap.size grow 42)) (fun i _ => 6 - (intOf i).toNat)
  case atStart => exact ⟨0, Nat.zero_le _, rfl, Lib.hid ⟨[], rfl, HJ1.out⟩, HR1⟩
  case round =>
    obtain ⟨k, hk, rfl, hJs, hR⟩ := hrel
    clear HJ1 HR1
    by_cases hlt : k < 6
    · have hlt2 : (k : Int) < 6 := by omega
      obtain ⟨p, a, hp, hg0, hg1⟩ := grow_at k hlt
      have HP : Hid (gp[k]? = some (p, a)) := Lib.hid hp
      clear hp
      have c0 : wr.cell? ⟨W.heap.size, k * 2, none⟩ = some (.int .i64 p) := (hR.out.cell _).trans hg0
      have c1 : wr.cell? ⟨W.heap.size, k * 2 + 1, none⟩ = some (.int .i64 a) := (hR.out.cell _).trans hg1
      have hblt := hR.out.lt
      obtain ⟨pre, hpl, hJp⟩ := hJs.out
      have hpre : pre.length = k := by
        have := congrArg List.length hpl
        simpa [placesG] using this
      obtain ⟨fn, tmps, assign, body, hy, hr⟩ := HY.out pre ⟨(k, (p, a)), HP⟩ (wr.alloc (.cells #[.int .i64 p, .int .i64 a] 42)) (HJ.out _ _ _ hJp ((Below.refl _ _).alloc (Nat.le_refl _) _)) (by rw [hpre]; exact hlt)
      dsimp only [encG] at hy
      have hpl2 : Hid (placesG (pre ++ [(⟨(k, (p, a)), HP⟩ : Gt)]) = List.range (k + 1)) := by
        refine Lib.hid ?_
        rw [List.range_succ, ← hpl]
        simp [placesG]
      have HRa := Lib.hid (hR.out.alloc (.cells #[.int .i64 p, .int .i64 a] 42))
      clear hpl hJp hpre hg0 hg1
      gi_wp2
      refine hr.mono ?_
      rintro e W3 (⟨rfl, hJ3, hk3⟩ | ⟨rfl, hJx3⟩)
      · have hR3 : Hid (Row W3 W.heap.size grow 42) := Lib.hid ⟨hk3.2 _ _ _ _ HN.out HRa.out.blk⟩
        have hJ4 := Lib.hid hJ3
        clear hJ3 hk3
        gi_wp2
        go_roundw
        case rel => exact ⟨k + 1, by omega, by go_num, Lib.hid ⟨_, hpl2.out, hJ4.out⟩, hR3⟩
        case measure => simp [intOf]; omega
      · have hJ4 := Lib.hid hJx3
        clear hJx3
        gi_wp2
        refine bodyPost_ret (results_none rfl _ _ _) rfl ?_
        exact ⟨⟨_, rfl⟩, .inr ⟨_, ⟨_, hpl2.out⟩, hJ4.out⟩⟩
    · have hlt2 : ¬ (k : Int) < 6 := by omega
      obtain rfl : k = 6 := by omega
      gi_wp2
      go_end0
      obtain ⟨pre, h1, h2⟩ := hJs.out
      exact ⟨⟨_, rfl⟩, .inl ⟨pre, h1, h2⟩⟩
theorem all_stops (n : Nat) (hn : 1 ≤ n) (w : World) :
    SeqStopsK Fence.wide n Try.prog 26 #[] encG (Kq w.heap.size) (fun xs => placesG xs = List.range 6) (fun pre => ∃ k, placesG pre = List.range k) 6 w := fun l J Jx W hW hJ _ hY h0 =>
  all1_in n hn l w.heap.size J Jx W (fun s X Y hs hb => hJ s X Y none hs ⟨hb.os, hb.tape, hb.output, hb.size, fun k hk _ => hb.block k hk⟩ (fun r e => by cases e)) hY h0 hW.size
end Go.Proofs.Ytfemggdbgibgaaa
