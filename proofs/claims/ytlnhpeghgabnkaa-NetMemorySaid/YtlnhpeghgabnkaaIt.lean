/-
  Layer 25: All and its iterator.
-/
import Derived.Test.YtlnhpeghgabnkaaTake
import Derived.RangeFuncNested
import Derived.RangeFuncBound
import Derived.RangeFuncCalls
import Derived.RangeFuncLeaves
import Derived.RangeFuncBox
import Derived.OwnWalkIn
import Derived.TacticsInMore
import Derived.LoopNIn
import Derived.LoopIn
namespace Go.Proofs.Ytlnhpeghgabnkaa
open Go.RowKit
attribute [local go_sem] Oper.semAt_some

/-- An element of a list with its place. -/
abbrev At (ps : List Pk) : Type := { x : Nat × Pk // Hid (ps[x.1]? = some x.2) }
def encAt {ps : List Pk} (x : At ps) : Array Value := #[.int .i64 (x.1.1 : Int), .agg x.1.2.cs.toArray]
def places {ps : List Pk} (xs : List (At ps)) : List Nat := xs.map fun x => x.1.1
/-- An iterator's variable: the block x holds a slice of the call's own that holds these packets; all lies from B on. -/
def ItAt (w : World) (x : Nat) (ps : List Pk) : Prop := ∃ ad n cap, Blk w x 26 #[.slice ad n cap] ∧ EP.Own w 0 (.slice ad n cap) ps
theorem ItAt.lt {w : World} {x : Nat} {ps : List Pk} (h : ItAt w x ps) : x < w.heap.size := by
  obtain ⟨_, _, _, h, _⟩ := h
  exact h.lt
theorem ItAt.below {w w' : World} {x : Nat} {ps : List Pk} (h : ItAt w x ps) (hb : Below w.heap.size w w') : ItAt w' x ps := by
  obtain ⟨ad, n, cap, h1, h2⟩ := h
  exact ⟨ad, n, cap, h1.below hb h1.lt, h2.below hb (Nat.le_refl _)⟩
theorem all_full (B bn : Nat) (v : Value) (l : List Pk) (w : World) (h : NetAt w B bn v l) (hlen : l.length ≤ 1759218604400) :
    Calls Try.prog 19 #[.pointer (some ⟨bn, 0, none⟩)] w fun e w' => ∃ x ad n cap, e = .returned (.func (.func 29) #[] #[.pointer (some ⟨x, 0, none⟩)]) ∧ w.heap.size ≤ x ∧ Blk w' x 26 #[.slice ad n cap] ∧ EP.Own w' w.heap.size (.slice ad n cap) l ∧ Below w.heap.size w w' := by
  have hmf : ∀ (fn : Fn) (first cap : Array Value) (w : World), (Instr.makeFunc fn first cap).run Try.prog w = .ok (.func fn first cap) w := fun _ _ _ _ => rfl
  have hC := hide (clone_any B v l w h.own hlen)
  have hcn := h.cell
  clear h hlen
  go_enter Try.func19, Try.ntmps19
  go_wp2_with (go_at_call 28; refine (unhide hC).mono ?_; rintro e w1 ⟨ad, n, cap, rfl, ho, hb⟩; have HO := Lib.hid ho; have HB := Lib.hid hb; clear ho hb)
  go_ret
  exact ⟨w1.heap.size, ad, n, cap, rfl, HB.out.size, Blk.new _ _ _, HO.out.alloc _, HB.out.alloc HB.out.size _⟩
theorem all_any (B bn : Nat) (v : Value) (l : List Pk) (w : World) (h : NetAt w B bn v l) (hlen : l.length ≤ 1759218604400) :
    Calls Try.prog 19 #[.pointer (some ⟨bn, 0, none⟩)] w fun e w' => ∃ x, e = .returned (.func (.func 29) #[] #[.pointer (some ⟨x, 0, none⟩)]) ∧ w.heap.size ≤ x ∧ ItAt w' x l ∧ Below w.heap.size w w' := by
  refine (all_full B bn v l w h hlen).mono ?_
  rintro e w' ⟨x, ad, n, cap, he, hx, hb, ho, hB⟩
  exact ⟨x, he, hx, ⟨ad, n, cap, hb, ho.mono (fun _ _ => Nat.zero_le _)⟩, hB⟩
set_option maxRecDepth 100000 in
set_option maxHeartbeats 8000000 in
/-- The iterator, for every body that keeps what lay below n₀. -/
theorem all1_in (F : Fence) (n : Nat) (hf : F.fn 29) (hro : F.round = none) (hn : 1 ≤ n) (l bx n₀ : Nat) (ps : List Pk) (hlen : ps.length ≤ 1759218604400) (J Jx : List (At ps) → World → Prop) (W : World) (hJ : ∀ s X o, J s X → J s (X.alloc o))
    (hY : ∀ pre x W1, J pre W1 → pre.length < ps.length → YieldAt F (n - 1) Try.prog l (encAt x) W1 fun e W' =>
      (e = .returned (.bool true) ∧ J (pre ++ [x]) W' ∧ Below n₀ W1 W') ∨ (e = .returned (.bool false) ∧ Jx (pre ++ [x]) W'))
    (ad : Option Addr) (m cap : Nat) (hm : ps.length = m) (hx : W.cell? ⟨bx, 0, none⟩ = some (.slice ad m cap)) (hR : EP.Rd W n₀ ad ps) (h0 : J [] W) (hn0 : n₀ ≤ W.heap.size) :
    CallsIn F n Try.prog 29 #[.func (.yield l) #[] #[], .pointer (some ⟨bx, 0, none⟩)] W fun e W' => (∃ v, e = .returned v) ∧
      ((∃ xs, places xs = List.range ps.length ∧ J xs W') ∨ (∃ pre, (∃ k, places pre = List.range k) ∧ Jx pre W')) := by
  have HR := Lib.hid hR
  have HM := Lib.hid hm
  have hmb : m ≤ 1759218604400 := by omega
  have HY := Lib.hid hY
  have HJ := Lib.hid hJ
  have H0 := Lib.hid h0
  have HN := Lib.hid hn0
  clear hR hm hY hJ h0 hlen hn0
  refine callsIn_of_wp Try.func29 rfl hf ?_ hro
  simp only [Try.ntmps29, List.size_toArray, List.length_cons, List.length_nil, Nat.reduceAdd, Nat.reduceSub, Array.replicate_succ, Array.replicate_zero, List.push_toArray, List.append_toArray, List.nil_append, List.cons_append]
  gi_wp2
  gi_loopw [7] (fun i wr => ∃ k : Nat, k ≤ m ∧ i = .int .i64 k ∧ Hid (∃ pre, places pre = List.range k ∧ J pre wr) ∧ Hid (Below n₀ W wr)) (fun i _ => m - (intOf i).toNat)
  case atStart => exact ⟨0, Nat.zero_le _, rfl, Lib.hid ⟨[], rfl, H0.out⟩, Lib.hid (Below.refl _ _)⟩
  case round =>
    obtain ⟨k, hk, rfl, hJs, hB⟩ := hrel
    by_cases hlt : k < m
    · have hlt2 : (k : Int) < (m : Int) := by omega
      obtain ⟨p, hp⟩ : ∃ p, Hid (ps[k]? = some p) := ⟨ps[k]'(by rw [HM.out]; exact hlt), Lib.hid (by simp)⟩
      obtain ⟨b, off, rfl, hblt, c0, c1, c2, c3, c4, c5, c6, c7, c8, c9, c10⟩ := rdP (HR.out.below hB.out (Nat.le_refl _)) k p hp.out
      have hblt2 : b < wr.heap.size := Nat.lt_of_lt_of_le hblt (Nat.le_trans HN.out hB.out.size)
      obtain ⟨pre, hpl, hJp⟩ := hJs.out
      have hpre : pre.length = k := by
        have := congrArg List.length hpl
        simpa [places] using this
      obtain ⟨pb, ⟨mr, mk, mt, ma, mm, mc, mp⟩, ⟨ar, ak, at'⟩⟩ := p
      dsimp only at c0 c1 c2 c3 c4 c5 c6 c7 c8 c9 c10
      obtain ⟨fn, tmps, assign, body, hy, hr⟩ := HY.out pre ⟨(k, ⟨pb, ⟨mr, mk, mt, ma, mm, mc, mp⟩, ⟨ar, ak, at'⟩⟩), hp⟩ (wr.alloc (.cells #[.bool pb, .int .i64 mr, .int .i64 mk, .string mt, .int .i64 ma, .int .i64 mm, .string mc, .string mp, .int .i64 ar, .int .i64 ak, .string at'] 40)) (HJ.out _ _ _ hJp) (by rw [hpre, HM.out]; exact hlt)
      dsimp only [encAt, Pk.cs] at hy
      have hpl2 : Hid (places (pre ++ [(⟨(k, ⟨pb, ⟨mr, mk, mt, ma, mm, mc, mp⟩, ⟨ar, ak, at'⟩⟩), hp⟩ : At ps)]) = List.range (k + 1)) := by
        refine Lib.hid ?_
        rw [List.range_succ, ← hpl]
        simp [places]
      clear hpl hJp hpre hblt
      gi_wp2
      refine hr.mono ?_
      rintro e W3 (⟨rfl, hJ3, hk3⟩ | ⟨rfl, hJx3⟩)
      · have hB3 := Lib.hid ((hB.out.alloc (Nat.le_trans HN.out hB.out.size) _).trans hk3)
        have hJ4 := Lib.hid hJ3
        clear hJ3 hk3
        gi_wp2
        go_roundw
        case rel => exact ⟨k + 1, by omega, by go_num, Lib.hid ⟨_, hpl2.out, hJ4.out⟩, hB3⟩
        case measure => simp [intOf]; omega
      · have hJ4 := Lib.hid hJx3
        clear hJx3
        gi_wp2
        refine bodyPost_ret (results_none rfl _ _ _) rfl ?_
        exact ⟨⟨_, rfl⟩, .inr ⟨_, ⟨_, hpl2.out⟩, hJ4.out⟩⟩
    · have hlt2 : ¬ (k : Int) < (m : Int) := by omega
      obtain rfl : k = m := by omega
      gi_wp2
      go_end0
      obtain ⟨pre, h1, h2⟩ := hJs.out
      exact ⟨⟨_, rfl⟩, .inl ⟨pre, by rw [HM.out]; exact h1, h2⟩⟩
theorem all_stops (F : Fence) (n : Nat) (hf : F.fn 29) (hro : F.round = none) (hn : 1 ≤ n) (bx n₀ : Nat) (ps : List Pk) (hlen : ps.length ≤ 1759218604400) (w w1 : World) (hI : ItAt w bx ps) (hw : Below w.heap.size w w1) (hn0 : n₀ = w.heap.size) :
    SeqStopsK F n Try.prog 29 #[.pointer (some ⟨bx, 0, none⟩)] (encAt (ps := ps)) (Below n₀) (fun xs => places xs = List.range ps.length) (fun pre => ∃ k, places pre = List.range k) ps.length w1 := fun l J Jx W hW hJ _ hY h0 => by
  subst hn0
  have hb : Below w.heap.size w W := hw.trans (hW.mono hw.size)
  obtain ⟨ad, m, cap, h1, h2⟩ := hI.below hb
  refine all1_in F n hf hro hn l bx w.heap.size ps hlen J Jx W (fun s X o hs => ?_) hY ad m cap h2.len_eq.1 (h1.at_ 0) ?_ h0 hb.size
  · exact hJ s X _ none hs (World.grownBy_alloc X o none) (fun r e => by cases e)
  · obtain ⟨ad', m', cap', h3, h4⟩ := hI
    have h5 := (h1.type_eq (h3.below hb h3.lt)).2
    simp only [Array.mk.injEq, List.cons.injEq, Value.slice.injEq, and_true] at h5
    obtain ⟨rfl, rfl, rfl⟩ := h5
    exact (h4.rd).below hb (Nat.le_refl _)
end Go.Proofs.Ytlnhpeghgabnkaa
