/-
  Walks over layer 2's reference: form, Join, order, Compare.
-/
import Derived.Test.YtfgkgehlokabgaaDoorArgs
import Derived.Deep.AppendLies
namespace Go.Proofs.YtfgkgehlokabgaaDoor
open Go.RowKit

theorem own8_one (w : World) (B : Nat) (c : UInt8) (hB : B ≤ w.heap.size) : Own8 (w.alloc (.cells #[enc8 c] 5)) B (.slice (some ⟨w.heap.size, 0, none⟩) 1 1) [c] :=
  ⟨rfl, .inr ⟨w.heap.size, 1, #[enc8 c], rfl, hB, heap_alloc_new w _, Nat.le_refl _, by unfold maxLen; omega, rfl, rfl⟩⟩
theorem own8_zero (w : World) (B : Nat) (hB : B ≤ w.heap.size) : Own8 (w.alloc (.cells #[] 5)) B (.slice (some ⟨w.heap.size, 0, none⟩) 0 0) [] :=
  ⟨rfl, .inr ⟨w.heap.size, 0, #[], rfl, hB, heap_alloc_new w _, Nat.le_refl _, by unfold maxLen; omega, rfl, rfl⟩⟩
theorem grow8_of' {B : Nat} {W w1 : World} {v : Value} {l : List UInt8} (h : Own8 W B v l) (hB : B ≤ W.heap.size) (hg : W.grownBy w1 v.ownBlock) : Grow8 B W w1 := by
  refine ⟨fun w hb => hb.grown hg hB (fun j hj => by have := (World.ownsRow.lt h j hj).1; omega), fun g t cs hne hb => ?_, hg.size⟩
  refine (hg.block g hb.lt ?_).trans hb
  rcases h.2 with ⟨rfl, _⟩ | ⟨g', cap, cur, rfl, _, hh, _⟩
  · simp [Value.ownBlock]
  · intro e
    have e' : g = g' := by simpa [Value.ownBlock] using e
    subst e'
    unfold Blk at hb
    rw [hh] at hb
    injection hb with hb
    injection hb with _ ht
    exact hne ht.symm
/-- Append of a slice of the call's own: 'out = append(out, more...)'. -/
theorem wpList_app8_own {ops : Array Oper} {rest : List Oper} {o : Oper} {a : Act} {Q : Exit → Act → World → Prop} (hgd : o.guard = none) (s x : Operand)
    (ho : o.op = .call { callee := .builtin .append, args := #[s, x], argTypes := #[45, 45] })
    (B B' : Nat) (v u : Value) (l m : List UInt8) (W : World) (hs : a.eval s = v) (hown : Own8 W B v l) (hx : a.eval x = u) (hsrc : Own8 W B' u m) (hm : 0 < m.length)
    (hlen : l.length + m.length ≤ 140737488355328) (hB : B ≤ W.heap.size)
    (h : ∀ v' w1, Hid (Own8 w1 B v' (l ++ m)) → Hid (Grow8 B W w1) → wpList Tryd.prog ops Q rest (a.put o.dst v') w1) : wpList Tryd.prog ops Q (o :: rest) a W := by
  obtain ⟨i0, hi, hz0, hz1, hz2⟩ := info_parts u8_info
  obtain ⟨g, cap, hu, _⟩ := World.ownsRow.form hsrc hm
  refine wpList_append_own _ hgd s x 45 ho B 5 i0 (.int .u8 0) 1 1 Tryd.underlying45 hi hz0 hz1 hz2 rfl (by decide) v l.length (l.map enc8) hs hown ⟨g, 0, none⟩ m.length cap (m.map enc8) (by rw [hx, hu]) (by simp)
    (World.ownsRow.cells hsrc (by rw [hu]; rfl)) (fun u hu => by obtain ⟨c, _, rfl⟩ := List.mem_map.1 hu; rfl) (by unfold maxLen; omega) (by omega) hB ?_
  intro v' w1 h1 h2 _
  refine h v' w1 (Lib.hid ?_) (Lib.hid (grow8_of' hown hB h2))
  unfold Own8
  rw [List.length_append, List.map_append]
  exact h1
/-- form's answer. -/
def FormOut (p : PV) (w : World) (e : Ending) (w' : World) : Prop := ∃ v, e = .returned v ∧ Own8 w' w.heap.size v (Ky.form p.toP) ∧ Below w.heap.size w w'
set_option maxRecDepth 100000 in
set_option maxHeartbeats 8000000 in
theorem form_any (p : PV) (hok : p.Ok) (w : World) :
    Calls Tryd.prog 21 #[.agg #[.bool p.num, .int .i64 p.n, .string p.s]] w (FormOut p w) := by
  obtain ⟨num, m, s⟩ := p
  have HOk := Lib.hid hok
  have hsz := hok.sz
  dsimp only at hsz
  have hP := Lib.hid (Blk.new w #[.bool num, .int .i64 m, .string s] 39)
  clear hok
  cases num
  · skip
    have hP1 := Lib.hid (hP.out.alloc (.cells #[.int .u8 2] 5))
    have ho : Hid (Own8 ((w.alloc (.cells #[.bool false, .int .i64 m, .string s] 39)).alloc (.cells #[.int .u8 2] 5)) w.heap.size (.slice (some ⟨w.heap.size + 1, 0, none⟩) 1 1) [2]) := by
      have := own8_one (w.alloc (.cells #[.bool false, .int .i64 m, .string s] 39)) w.heap.size 2 (by simp)
      rw [World.size_alloc] at this
      exact Lib.hid this
    have HB1 := Lib.hid (((Below.refl _ w).alloc (Nat.le_refl _) (.cells #[.bool false, .int .i64 m, .string s] 39)).alloc (by simp) (.cells #[.int .u8 2] 5))
    go_enter Tryd.func21, Tryd.ntmps21
    go_wp2_with fail
    go_loopw [6, 7] (fun v i wr => ∃ i0 : Nat, i0 ≤ s.size ∧ i = .int .i64 i0 ∧ Hid (Own8 wr w.heap.size v ([2] ++ Ky.esc (s.data.toList.take i0))) ∧ Hid (Blk wr w.heap.size 39 #[.bool false, .int .i64 m, .string s]) ∧ Hid (Below w.heap.size w wr)) (fun _ i _ => s.size - (intOf i).toNat)
    case atStart => exact ⟨0, by omega, rfl, by rw [List.take_zero]; simpa [Ky.esc] using ho, hP1, HB1⟩
    case round =>
      obtain ⟨i0, hi0, rfl, hwn, hPr, HBr⟩ := hrel
      have hB1 : Hid (w.heap.size ≤ wr.heap.size) := Lib.hid HBr.out.size
      obtain ⟨d0, d1, d2⟩ := part_cells hPr.out
      have he := Lib.hid (esc_le (s.data.toList.take i0))
      have hbd : Hid (([2] ++ Ky.esc (s.data.toList.take i0)).length ≤ 4398046511104) := by
        have h3 := he.out
        have h4 := size_toList s
        rw [List.length_take] at h3
        refine Lib.hid ?_
        simp only [List.length_append, List.length_cons, List.length_nil]
        omega
      clear ho hP1 HB1 hP HOk
      by_cases hi : i0 < s.size
      · have hi2 : (i0 : Int) < (s.size : Int) := by omega
        have hsn := Lib.hid (take_snoc s i0 hi)
        obtain ⟨c, hc⟩ : ∃ c : UInt8, Hid (s[i0]'hi = c) := ⟨_, Lib.hid rfl⟩
        by_cases hz : c = 0
        · subst hz
          have hcv : ((s[i0]'hi).toNat : Int) = 0 := by rw [hc.out]; rfl
          go_wp2_with (first
            | (at_builtin; refine wpList_app8 rfl _ _ rfl w.heap.size _ _ [255] _ _ (by rfl) h2.out _ (by rfl) (by first | rfl | simp) (by rfl) (by have := hbd.out; simp only [List.length_append, List.length_cons, List.length_nil] at *; omega) (by have := hB1.out; have := g2.out.size; omega) ?_; intro v3 w3 h3 g3; have hP3 := Lib.hid (g3.out.blk _ _ _ (by decide) hP2.out))
            | (at_builtin; refine wpList_app8 rfl _ _ rfl w.heap.size _ _ [0] _ _ (by rfl) hwn.out _ (by rfl) (by first | rfl | simp) (by rfl) (by have := hbd.out; simp only [List.length_cons, List.length_nil]; omega) (by have := hB1.out; omega) ?_; intro v2 w2 h2 g2; have hP2 := Lib.hid (g2.out.blk _ _ _ (by decide) hPr.out); obtain ⟨e0, e1, e2⟩ := part_cells hP2.out))
          have HB4 := Lib.hid (g3.out.below _ (g2.out.below _ HBr.out))
          have h4 : Hid (Own8 w3 w.heap.size v3 ([2] ++ Ky.esc (s.data.toList.take (i0 + 1)))) := by
            have := h3.out
            rw [hsn.out, esc_snoc, hc.out, if_pos rfl]
            simp only [List.append_assoc, List.cons_append, List.nil_append] at this ⊢
            exact Lib.hid this
          go_roundw
          case rel => exact ⟨i0 + 1, by omega, by go_num, h4, hP3, HB4⟩
          case measure => simp [intOf]; omega
        · have hcn : (((s[i0]'hi).toNat : Int) == 0) = false := beq_eq_false_iff_ne.2 fun e => hz (UInt8.toNat_inj.1 (by rw [hc.out] at e; show c.toNat = 0; omega))
          go_wp2_with (at_builtin; refine wpList_app8 rfl _ _ rfl w.heap.size _ _ [s[i0]'hi] _ _ (by rfl) hwn.out _ (by rfl) (by simp) (by rfl) (by have := hbd.out; simp only [List.length_cons, List.length_nil]; omega) (by have := hB1.out; omega) ?_; intro v2 w2 h2 g2; have hP2 := Lib.hid (g2.out.blk _ _ _ (by decide) hPr.out); obtain ⟨e0, e1, e2⟩ := part_cells hP2.out)
          have HB4 := Lib.hid (g2.out.below _ HBr.out)
          have h3 : Hid (Own8 w2 w.heap.size v2 ([2] ++ Ky.esc (s.data.toList.take (i0 + 1)))) := by
            have := h2.out
            rw [hc.out] at this
            rw [hsn.out, esc_snoc, hc.out, if_neg hz]
            rw [List.append_assoc] at this
            exact Lib.hid this
          go_roundw
          case rel => exact ⟨i0 + 1, by omega, by go_num, h3, hP2, HB4⟩
          case measure => simp [intOf]; omega
      · have hi2 : ¬ (i0 : Int) < (s.size : Int) := by omega
        obtain rfl : i0 = s.size := by omega
        go_wp2_with (at_builtin; refine wpList_app8 rfl _ _ rfl w.heap.size _ _ [0, 1] _ _ (by rfl) hwn.out _ (by rfl) (by first | rfl | simp) (by rfl) (by have := hbd.out; simp only [List.length_cons, List.length_nil]; omega) (by have := hB1.out; omega) ?_; intro v2 w2 h2 g2)
        have HB4 := Lib.hid (g2.out.below _ HBr.out)
        have h3 : Hid (Own8 w2 w.heap.size v2 (Ky.form (PV.toP ⟨false, m, s⟩))) := by
          have := h2.out
          rw [form_text]
          rw [← size_toList s, List.take_length] at this
          simp only [List.cons_append, List.nil_append] at this ⊢
          exact Lib.hid this
        go_ret
        exact ⟨_, rfl, h3.out, HB4.out⟩
  · obtain ⟨u, hu, hut, hul⟩ := top_wrap m HOk.out.lo HOk.out.hi
    have HU := Lib.hid hut
    have HUL := Lib.hid hul
    clear hut hul
    have hP1 := Lib.hid (hP.out.alloc (.cells #[.int .u8 1] 5))
    have ho : Hid (Own8 ((w.alloc (.cells #[.bool true, .int .i64 m, .string s] 39)).alloc (.cells #[.int .u8 1] 5)) w.heap.size (.slice (some ⟨w.heap.size + 1, 0, none⟩) 1 1) [1]) := by
      have := own8_one (w.alloc (.cells #[.bool true, .int .i64 m, .string s] 39)) w.heap.size 1 (by simp)
      rw [World.size_alloc] at this
      exact Lib.hid this
    have HB1 := Lib.hid (((Below.refl _ w).alloc (Nat.le_refl _) (.cells #[.bool true, .int .i64 m, .string s] 39)).alloc (by simp) (.cells #[.int .u8 1] 5))
    go_enter Tryd.func21, Tryd.ntmps21
    go_wp2_with fail
    go_loopw [3, 5] (fun v i wr => ∃ (j : Nat) (z : Int), j ≤ 8 ∧ z + 8 * j = 56 ∧ i = .int .i64 z ∧ Hid (Own8 wr w.heap.size v ([1] ++ (Ky.be 8 u).take j)) ∧ Hid (Below w.heap.size w wr)) (fun _ i _ => (intOf i + 8).toNat)
    case atStart => exact ⟨0, 56, by omega, by omega, rfl, by simpa using ho, HB1⟩
    case round =>
      obtain ⟨j, z, hj, hz, rfl, hwn, HBr⟩ := hrel
      have hB1 : Hid (w.heap.size ≤ wr.heap.size) := Lib.hid HBr.out.size
      have hbd : Hid (([1] ++ (Ky.be 8 u).take j).length ≤ 4398046511104) := by
        refine Lib.hid ?_
        simp only [List.length_append, List.length_cons, List.length_nil, List.length_take]
        omega
      clear ho hP1 HB1 hP HOk
      by_cases hj8 : j < 8
      · have hbt := bt_val u j
        have hbs := Lib.hid (be_take u j HUL.out hj8)
        rcases (by omega : j = 0 ∨ j = 1 ∨ j = 2 ∨ j = 3 ∨ j = 4 ∨ j = 5 ∨ j = 6 ∨ j = 7) with rfl | rfl | rfl | rfl | rfl | rfl | rfl | rfl
        all_goals
          have hbh := Lib.hid hbt
          clear hbt
        · obtain rfl : z = 56 := by omega
          go_wp2_with (at_builtin; refine wpList_app8 rfl _ _ rfl w.heap.size _ _ [bt u 0] _ _ (by rfl) hwn.out _ (by rfl) (by first | rfl | simp) (by have := hbh.out; exact congrArg (fun t : Int => #[Value.int .u8 t]) (by omega)) (by have := hbd.out; simp only [List.length_cons, List.length_nil]; omega) (by have := hB1.out; omega) ?_; intro v2 w2 h2 g2)
          have HB4 := Lib.hid (g2.out.below _ HBr.out)
          have h3 : Hid (Own8 w2 w.heap.size v2 ([1] ++ (Ky.be 8 u).take (0 + 1))) := by
            have := h2.out
            rw [hbs.out, ← List.append_assoc]
            exact Lib.hid this
          go_roundw
          case rel => exact ⟨1, 48, by omega, by omega, rfl, h3, HB4⟩
          case measure => simp [intOf]
        · obtain rfl : z = 48 := by omega
          go_wp2_with (at_builtin; refine wpList_app8 rfl _ _ rfl w.heap.size _ _ [bt u 1] _ _ (by rfl) hwn.out _ (by rfl) (by first | rfl | simp) (by have := hbh.out; exact congrArg (fun t : Int => #[Value.int .u8 t]) (by omega)) (by have := hbd.out; simp only [List.length_cons, List.length_nil]; omega) (by have := hB1.out; omega) ?_; intro v2 w2 h2 g2)
          have HB4 := Lib.hid (g2.out.below _ HBr.out)
          have h3 : Hid (Own8 w2 w.heap.size v2 ([1] ++ (Ky.be 8 u).take (1 + 1))) := by
            have := h2.out
            rw [hbs.out, ← List.append_assoc]
            exact Lib.hid this
          go_roundw
          case rel => exact ⟨2, 40, by omega, by omega, rfl, h3, HB4⟩
          case measure => simp [intOf]
        · obtain rfl : z = 40 := by omega
          go_wp2_with (at_builtin; refine wpList_app8 rfl _ _ rfl w.heap.size _ _ [bt u 2] _ _ (by rfl) hwn.out _ (by rfl) (by first | rfl | simp) (by have := hbh.out; exact congrArg (fun t : Int => #[Value.int .u8 t]) (by omega)) (by have := hbd.out; simp only [List.length_cons, List.length_nil]; omega) (by have := hB1.out; omega) ?_; intro v2 w2 h2 g2)
          have HB4 := Lib.hid (g2.out.below _ HBr.out)
          have h3 : Hid (Own8 w2 w.heap.size v2 ([1] ++ (Ky.be 8 u).take (2 + 1))) := by
            have := h2.out
            rw [hbs.out, ← List.append_assoc]
            exact Lib.hid this
          go_roundw
          case rel => exact ⟨3, 32, by omega, by omega, rfl, h3, HB4⟩
          case measure => simp [intOf]
        · obtain rfl : z = 32 := by omega
          go_wp2_with (at_builtin; refine wpList_app8 rfl _ _ rfl w.heap.size _ _ [bt u 3] _ _ (by rfl) hwn.out _ (by rfl) (by first | rfl | simp) (by have := hbh.out; exact congrArg (fun t : Int => #[Value.int .u8 t]) (by omega)) (by have := hbd.out; simp only [List.length_cons, List.length_nil]; omega) (by have := hB1.out; omega) ?_; intro v2 w2 h2 g2)
          have HB4 := Lib.hid (g2.out.below _ HBr.out)
          have h3 : Hid (Own8 w2 w.heap.size v2 ([1] ++ (Ky.be 8 u).take (3 + 1))) := by
            have := h2.out
            rw [hbs.out, ← List.append_assoc]
            exact Lib.hid this
          go_roundw
          case rel => exact ⟨4, 24, by omega, by omega, rfl, h3, HB4⟩
          case measure => simp [intOf]
        · obtain rfl : z = 24 := by omega
          go_wp2_with (at_builtin; refine wpList_app8 rfl _ _ rfl w.heap.size _ _ [bt u 4] _ _ (by rfl) hwn.out _ (by rfl) (by first | rfl | simp) (by have := hbh.out; exact congrArg (fun t : Int => #[Value.int .u8 t]) (by omega)) (by have := hbd.out; simp only [List.length_cons, List.length_nil]; omega) (by have := hB1.out; omega) ?_; intro v2 w2 h2 g2)
          have HB4 := Lib.hid (g2.out.below _ HBr.out)
          have h3 : Hid (Own8 w2 w.heap.size v2 ([1] ++ (Ky.be 8 u).take (4 + 1))) := by
            have := h2.out
            rw [hbs.out, ← List.append_assoc]
            exact Lib.hid this
          go_roundw
          case rel => exact ⟨5, 16, by omega, by omega, rfl, h3, HB4⟩
          case measure => simp [intOf]
        · obtain rfl : z = 16 := by omega
          go_wp2_with (at_builtin; refine wpList_app8 rfl _ _ rfl w.heap.size _ _ [bt u 5] _ _ (by rfl) hwn.out _ (by rfl) (by first | rfl | simp) (by have := hbh.out; exact congrArg (fun t : Int => #[Value.int .u8 t]) (by omega)) (by have := hbd.out; simp only [List.length_cons, List.length_nil]; omega) (by have := hB1.out; omega) ?_; intro v2 w2 h2 g2)
          have HB4 := Lib.hid (g2.out.below _ HBr.out)
          have h3 : Hid (Own8 w2 w.heap.size v2 ([1] ++ (Ky.be 8 u).take (5 + 1))) := by
            have := h2.out
            rw [hbs.out, ← List.append_assoc]
            exact Lib.hid this
          go_roundw
          case rel => exact ⟨6, 8, by omega, by omega, rfl, h3, HB4⟩
          case measure => simp [intOf]
        · obtain rfl : z = 8 := by omega
          go_wp2_with (at_builtin; refine wpList_app8 rfl _ _ rfl w.heap.size _ _ [bt u 6] _ _ (by rfl) hwn.out _ (by rfl) (by first | rfl | simp) (by have := hbh.out; exact congrArg (fun t : Int => #[Value.int .u8 t]) (by omega)) (by have := hbd.out; simp only [List.length_cons, List.length_nil]; omega) (by have := hB1.out; omega) ?_; intro v2 w2 h2 g2)
          have HB4 := Lib.hid (g2.out.below _ HBr.out)
          have h3 : Hid (Own8 w2 w.heap.size v2 ([1] ++ (Ky.be 8 u).take (6 + 1))) := by
            have := h2.out
            rw [hbs.out, ← List.append_assoc]
            exact Lib.hid this
          go_roundw
          case rel => exact ⟨7, 0, by omega, by omega, rfl, h3, HB4⟩
          case measure => simp [intOf]
        · obtain rfl : z = 0 := by omega
          go_wp2_with (at_builtin; refine wpList_app8 rfl _ _ rfl w.heap.size _ _ [bt u 7] _ _ (by rfl) hwn.out _ (by rfl) (by first | rfl | simp) (by have := hbh.out; exact congrArg (fun t : Int => #[Value.int .u8 t]) (by omega)) (by have := hbd.out; simp only [List.length_cons, List.length_nil]; omega) (by have := hB1.out; omega) ?_; intro v2 w2 h2 g2)
          have HB4 := Lib.hid (g2.out.below _ HBr.out)
          have h3 : Hid (Own8 w2 w.heap.size v2 ([1] ++ (Ky.be 8 u).take (7 + 1))) := by
            have := h2.out
            rw [hbs.out, ← List.append_assoc]
            exact Lib.hid this
          go_roundw
          case rel => exact ⟨8, -8, by omega, by omega, rfl, h3, HB4⟩
          case measure => simp [intOf]
      · have hj9 : ¬ (0 : Int) ≤ z := by omega
        obtain rfl : j = 8 := by omega
        have h3 : Hid (Own8 wr w.heap.size u3 (Ky.form (PV.toP ⟨true, m, s⟩))) := by
          have := hwn.out
          rw [form_num, ← HU.out]
          rw [List.take_of_length_le (by rw [Ky.be_length]; omega)] at this
          simp only [List.cons_append, List.nil_append] at this ⊢
          exact Lib.hid this
        go_wp2_with fail
        go_ret
        exact ⟨_, rfl, h3.out, HBr.out⟩
end Go.Proofs.YtfgkgehlokabgaaDoor
