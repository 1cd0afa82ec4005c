/-
  Layer 11: rising and falling, a closure as yield (printed by gen_r11risc.py).
-/
import Derived.Test.YtiffjjophmgdlaaRis
import Derived.Test.YtiffjjophmgdlaaPlain2
namespace Go.Proofs.Ytiffjjophmgdlaa
open Go.RowKit Tb
attribute [local go_sem] Oper.semAt_some

theorem fal_lt (k v hi : ByteArray) (l r : Tr) (h : lt k hi = true) : (Tr.node k v l r).fal hi = r.fal hi ++ (k, v) :: l.fal hi := by
  conv => lhs; unfold Tr.fal
  rw [h, if_pos rfl]
theorem fal_ge (k v hi : ByteArray) (l r : Tr) (h : lt k hi = false) : (Tr.node k v l r).fal hi = l.fal hi := by
  conv => lhs; unfold Tr.fal
  rw [h, if_neg (by simp)]
set_option maxRecDepth 100000 in
set_option maxHeartbeats 4000000 in
theorem rising_c (w0 : World) (y : Value) (hb yb : Option Addr) (hy0 : y = .func (.func 25) #[] #[.pointer hb, .pointer yb]) (N : Nat) (lo : ByteArray) (J : List Rw → World → Prop) (Jf : List Rw → Rw → World → Prop) (hJd : ∀ s X, J s X → J s X.drew)
    (hY : ∀ m pre x W, J pre W → pre.length < N → CallsIn Fence.wide m Try.prog 25 #[.string x.1, .string x.2, .pointer hb, .pointer yb] W fun e W' =>
      (e = .returned (.bool true) ∧ J (pre ++ [x]) W' ∧ Below w0.heap.size W W') ∨ (e = .returned (.bool false) ∧ Jf pre x W')) (t : Tr) :
    ∀ (n : Nat) (p : Option Addr) (pre : List Rw) (W : World), At w0 t p → Below w0.heap.size w0 W → J pre W → pre.length + (t.ris lo).length ≤ N →
      CallsIn Fence.wide n Try.prog 23 #[.pointer p, .string lo, y] W fun e W' =>
        (e = .returned (.bool true) ∧ J (pre ++ t.ris lo) W' ∧ Below w0.heap.size W W') ∨ (e = .returned (.bool false) ∧ ∃ q x, q ++ [x] <+: t.ris lo ∧ Jf (pre ++ q) x W') := by
  subst hy0
  have hro : Fence.wide.round = none := rfl
  have hmo : Try.prog.follows .mixedOrders = true := by kernel_rfl
  induction t with
  | nil =>
    intro n p pre W ht _ hJ _
    obtain rfl : p = none := ht
    have HJ := Lib.hid hJ
    clear hJ hY
    refine callsIn_of_wp Try.func23 rfl trivial ?_ hro
    simp only [Try.ntmps23, List.size_toArray, List.length_cons, List.length_nil, Nat.reduceAdd, Nat.reduceSub, Array.replicate_succ, Array.replicate_zero, List.push_toArray, List.append_toArray, List.nil_append, List.cons_append]
    gi_wp2
    go_ret
    exact .inl ⟨rfl, by simpa [Tr.ris] using HJ.out, Below.refl _ _⟩
  | node k v tl tr ihl ihr =>
    intro n p pre W ht hW hJ hN
    have hdd : Fence.wide.depth.isSome = true → 1 ≤ n := fun h => by cases h
    obtain ⟨g, pl, pr, rfl, hblk, hl, hr⟩ := ht
    have hglt := hblk.lt
    have CS : ∀ W : World, Below w0.heap.size w0 W → (W.cell? ⟨g, 0, none⟩ = some (.string k) ∧ W.cell? ⟨g, 1, none⟩ = some (.string v) ∧ W.cell? ⟨g, 2, none⟩ = some (.pointer pl) ∧ W.cell? ⟨g, 3, none⟩ = some (.pointer pr)) := fun W hW => by
      obtain ⟨y0, y1, y2, y3, _, _⟩ := nd_cells (hblk.below hW hglt)
      exact ⟨y0, y1, y2, y3⟩
    obtain ⟨c0, c1, c2, c3⟩ := CS W hW
    cases hlt : lt k lo with
    | true =>
      have f1 : Op.bytesLess k.toList lo.toList = true := by rw [toList_lt]; exact hlt
      have e1 : Hid ((Tr.node k v tl tr).ris lo = tr.ris lo) := Lib.hid (ris_lt _ _ _ _ _ hlt)
      rw [e1.out] at hN ⊢
      have ih2 := hide (ihr (n - 1) pr pre W hr hW hJ hN)
      clear ihl ihr hY hl hr hblk hJ hN CS hlt
      refine callsIn_of_wp Try.func23 rfl trivial ?_ hro
      simp only [Try.ntmps23, List.size_toArray, List.length_cons, List.length_nil, Nat.reduceAdd, Nat.reduceSub, Array.replicate_succ, Array.replicate_zero, List.push_toArray, List.append_toArray, List.nil_append, List.cons_append]
      gi_wp2_with (refine ⟨trivial, hdd, ?_⟩; refine (unhide ih2).mono ?_; clear ih2; rintro e W1 (⟨rfl, hJ1, hb1⟩ | ⟨rfl, q, x, hq, hx1⟩))
      · go_ret
        exact .inl ⟨rfl, hJ1, hb1⟩
      · go_ret
        exact .inr ⟨rfl, q, x, hq, hx1⟩
    | false =>
      have f1 : Op.bytesLess k.toList lo.toList = false := by rw [toList_lt]; exact hlt
      have e1 : Hid ((Tr.node k v tl tr).ris lo = tl.ris lo ++ (k, v) :: tr.ris lo) := Lib.hid (ris_ge _ _ _ _ _ hlt)
      rw [e1.out] at hN ⊢
      simp only [List.length_append, List.length_cons] at hN
      have hWd : Below w0.heap.size W W.drew := (Below.refl _ _).drew
      have cY := hide fun (W1 : World) (hJ1 : J (pre ++ tl.ris lo) W1) => hY (n - 1) _ (k, v) W1 hJ1 (by simp; omega)
      have ih1 := hide (ihl (n - 1) pl pre W.drew hl hW.drew (hJd _ _ hJ) (by omega))
      have ih3 := hide fun (W2 : World) (hJ2 : J (pre ++ tl.ris lo ++ [(k, v)]) W2) (hb2 : Below w0.heap.size w0 W2) => ihr (n - 1) pr _ W2 hr hb2 hJ2 (by simp; omega)
      have HCS := hide CS
      have HW := Lib.hid (hW.trans hWd)
      have HWd := Lib.hid hWd
      clear ihl ihr hY hl hr hblk hJ hN CS hlt hWd
      refine callsIn_of_wp Try.func23 rfl trivial ?_ hro
      simp only [Try.ntmps23, List.size_toArray, List.length_cons, List.length_nil, Nat.reduceAdd, Nat.reduceSub, Array.replicate_succ, Array.replicate_zero, List.push_toArray, List.append_toArray, List.nil_append, List.cons_append]
      gi_wp2_with fail
      refine region_lex hro hmo (by kernel_rfl) ?_
      repeat (refine lex_yield _ (by rfl) (by rfl) (by go_simp; rfl) ?_; simp only [Act.put, List.setIfInBounds_toArray, List.set_cons_zero, List.set_cons_succ])
      refine lex_call (by rfl) (by rfl) (fun K hK => ?_)
      go_simp
      refine ⟨trivial, hdd, (unhide ih1).mono ?_⟩
      clear ih1
      rintro e W1 (⟨rfl, hJ1, hb1⟩ | ⟨rfl, q, x, hq, hx1⟩)
      · have HW1 := Lib.hid (HW.out.trans hb1)
        have HB1 := Lib.hid (HWd.out.trans hb1)
        obtain ⟨d0, d1, d2, d3⟩ := unhide HCS W1 HW1.out
        have hR := hide (unhide cY W1 hJ1)
        clear hb1 hJ1
        refine hK _ _ ?_
        clear hK K
        repeat (refine lex_yield _ (by rfl) (by rfl) (by go_simp; rfl) ?_; simp only [Act.put, List.setIfInBounds_toArray, List.set_cons_zero, List.set_cons_succ])
        refine lex_call (by rfl) (by rfl) (fun K hK => ?_)
        go_simp
        refine ⟨trivial, hdd, (unhide hR).mono ?_⟩
        clear hR
        rintro e W2 (⟨rfl, hJ2, hb2⟩ | ⟨rfl, hx2⟩)
        · have HW2 := Lib.hid (HW1.out.trans hb2)
          have HB2 := Lib.hid (HB1.out.trans hb2)
          obtain ⟨x0, x1, x2, x3⟩ := unhide HCS W2 HW2.out
          clear hb2
          refine hK _ _ ?_
          clear hK K
          repeat (refine lex_yield _ (by rfl) (by rfl) (by go_simp; rfl) ?_; simp only [Act.put, List.setIfInBounds_toArray, List.set_cons_zero, List.set_cons_succ])
          refine lex_call (by rfl) (by rfl) (fun K hK => ?_)
          go_simp
          refine ⟨trivial, hdd, (unhide ih3 _ hJ2 HW2.out).mono ?_⟩
          rintro e W3 (⟨rfl, hJ3, hb3⟩ | ⟨rfl, q, x, hq, hx3⟩)
          · refine hK _ _ ?_
            clear hK K
            repeat (refine lex_yield _ (by rfl) (by rfl) (by go_simp; rfl) ?_; simp only [Act.put, List.setIfInBounds_toArray, List.set_cons_zero, List.set_cons_succ])
            refine lex_nil ?_
            gi_wp2
            go_ret
            exact .inl ⟨rfl, by simpa [List.append_assoc] using hJ3, HB2.out.trans hb3⟩
          · refine hK _ _ ?_
            clear hK K
            repeat (refine lex_yield _ (by rfl) (by rfl) (by go_simp; rfl) ?_; simp only [Act.put, List.setIfInBounds_toArray, List.set_cons_zero, List.set_cons_succ])
            refine lex_nil ?_
            gi_wp2
            go_ret
            exact .inr ⟨rfl, tl.ris lo ++ (k, v) :: q, x, by obtain ⟨r', hr'⟩ := hq; exact ⟨r', by simp [← hr']⟩, by simpa [List.append_assoc] using hx3⟩
        · refine hK _ _ ?_
          clear hK K
          repeat (refine lex_yield _ (by rfl) (by rfl) (by go_simp; rfl) ?_; simp only [Act.put, List.setIfInBounds_toArray, List.set_cons_zero, List.set_cons_succ])
          repeat (refine lex_skip (by rfl) (by rfl) ?_; simp only [Act.put, List.setIfInBounds_toArray, List.set_cons_zero, List.set_cons_succ])
          refine lex_call_skip (by rfl) (by rfl) (fun _ => trivial) ?_; simp only [Act.put, List.setIfInBounds_toArray, List.set_cons_zero, List.set_cons_succ]
          repeat (refine lex_yield _ (by rfl) (by rfl) (by go_simp; rfl) ?_; simp only [Act.put, List.setIfInBounds_toArray, List.set_cons_zero, List.set_cons_succ])
          refine lex_nil ?_
          gi_wp2
          go_ret
          exact .inr ⟨rfl, tl.ris lo, (k, v), ⟨tr.ris lo, by simp⟩, by simpa [List.append_assoc] using hx2⟩
      · refine hK _ _ ?_
        clear hK K
        repeat (refine lex_yield _ (by rfl) (by rfl) (by go_simp; rfl) ?_; simp only [Act.put, List.setIfInBounds_toArray, List.set_cons_zero, List.set_cons_succ])
        repeat (refine lex_skip (by rfl) (by rfl) ?_; simp only [Act.put, List.setIfInBounds_toArray, List.set_cons_zero, List.set_cons_succ])
        refine lex_call_skip (by rfl) (by rfl) (fun _ => trivial) ?_; simp only [Act.put, List.setIfInBounds_toArray, List.set_cons_zero, List.set_cons_succ]
        repeat (refine lex_yield _ (by rfl) (by rfl) (by go_simp; rfl) ?_; simp only [Act.put, List.setIfInBounds_toArray, List.set_cons_zero, List.set_cons_succ])
        repeat (refine lex_skip (by rfl) (by rfl) ?_; simp only [Act.put, List.setIfInBounds_toArray, List.set_cons_zero, List.set_cons_succ])
        refine lex_call_skip (by rfl) (by rfl) (fun _ => trivial) ?_; simp only [Act.put, List.setIfInBounds_toArray, List.set_cons_zero, List.set_cons_succ]
        repeat (refine lex_yield _ (by rfl) (by rfl) (by go_simp; rfl) ?_; simp only [Act.put, List.setIfInBounds_toArray, List.set_cons_zero, List.set_cons_succ])
        refine lex_nil ?_
        gi_wp2
        go_ret
        exact .inr ⟨rfl, q, x, hq.trans (List.prefix_append _ _), hx1⟩
set_option maxRecDepth 100000 in
set_option maxHeartbeats 4000000 in
theorem falling_c (w0 : World) (y : Value) (hb yb : Option Addr) (hy0 : y = .func (.func 28) #[] #[.pointer hb, .pointer yb]) (N : Nat) (lo : ByteArray) (J : List Rw → World → Prop) (Jf : List Rw → Rw → World → Prop) (hJd : ∀ s X, J s X → J s X.drew)
    (hY : ∀ m pre x W, J pre W → pre.length < N → CallsIn Fence.wide m Try.prog 28 #[.string x.1, .string x.2, .pointer hb, .pointer yb] W fun e W' =>
      (e = .returned (.bool true) ∧ J (pre ++ [x]) W' ∧ Below w0.heap.size W W') ∨ (e = .returned (.bool false) ∧ Jf pre x W')) (t : Tr) :
    ∀ (n : Nat) (p : Option Addr) (pre : List Rw) (W : World), At w0 t p → Below w0.heap.size w0 W → J pre W → pre.length + (t.fal lo).length ≤ N →
      CallsIn Fence.wide n Try.prog 27 #[.pointer p, .string lo, y] W fun e W' =>
        (e = .returned (.bool true) ∧ J (pre ++ t.fal lo) W' ∧ Below w0.heap.size W W') ∨ (e = .returned (.bool false) ∧ ∃ q x, q ++ [x] <+: t.fal lo ∧ Jf (pre ++ q) x W') := by
  subst hy0
  have hro : Fence.wide.round = none := rfl
  have hmo : Try.prog.follows .mixedOrders = true := by kernel_rfl
  induction t with
  | nil =>
    intro n p pre W ht _ hJ _
    obtain rfl : p = none := ht
    have HJ := Lib.hid hJ
    clear hJ hY
    refine callsIn_of_wp Try.func27 rfl trivial ?_ hro
    simp only [Try.ntmps27, List.size_toArray, List.length_cons, List.length_nil, Nat.reduceAdd, Nat.reduceSub, Array.replicate_succ, Array.replicate_zero, List.push_toArray, List.append_toArray, List.nil_append, List.cons_append]
    gi_wp2
    go_ret
    exact .inl ⟨rfl, by simpa [Tr.fal] using HJ.out, Below.refl _ _⟩
  | node k v tl tr ihl ihr =>
    intro n p pre W ht hW hJ hN
    have hdd : Fence.wide.depth.isSome = true → 1 ≤ n := fun h => by cases h
    obtain ⟨g, pl, pr, rfl, hblk, hl, hr⟩ := ht
    have hglt := hblk.lt
    have CS : ∀ W : World, Below w0.heap.size w0 W → (W.cell? ⟨g, 0, none⟩ = some (.string k) ∧ W.cell? ⟨g, 1, none⟩ = some (.string v) ∧ W.cell? ⟨g, 2, none⟩ = some (.pointer pl) ∧ W.cell? ⟨g, 3, none⟩ = some (.pointer pr)) := fun W hW => by
      obtain ⟨y0, y1, y2, y3, _, _⟩ := nd_cells (hblk.below hW hglt)
      exact ⟨y0, y1, y2, y3⟩
    obtain ⟨c0, c1, c2, c3⟩ := CS W hW
    cases hlt : lt k lo with
    | false =>
      have f1 : Op.bytesLess k.toList lo.toList = false := by rw [toList_lt]; exact hlt
      have e1 : Hid ((Tr.node k v tl tr).fal lo = tl.fal lo) := Lib.hid (fal_ge _ _ _ _ _ hlt)
      rw [e1.out] at hN ⊢
      have ih2 := hide (ihl (n - 1) pl pre W hl hW hJ hN)
      clear ihl ihr hY hl hr hblk hJ hN CS hlt
      refine callsIn_of_wp Try.func27 rfl trivial ?_ hro
      simp only [Try.ntmps27, List.size_toArray, List.length_cons, List.length_nil, Nat.reduceAdd, Nat.reduceSub, Array.replicate_succ, Array.replicate_zero, List.push_toArray, List.append_toArray, List.nil_append, List.cons_append]
      gi_wp2_with (refine ⟨trivial, hdd, ?_⟩; refine (unhide ih2).mono ?_; clear ih2; rintro e W1 (⟨rfl, hJ1, hb1⟩ | ⟨rfl, q, x, hq, hx1⟩))
      · go_ret
        exact .inl ⟨rfl, hJ1, hb1⟩
      · go_ret
        exact .inr ⟨rfl, q, x, hq, hx1⟩
    | true =>
      have f1 : Op.bytesLess k.toList lo.toList = true := by rw [toList_lt]; exact hlt
      have e1 : Hid ((Tr.node k v tl tr).fal lo = tr.fal lo ++ (k, v) :: tl.fal lo) := Lib.hid (fal_lt _ _ _ _ _ hlt)
      rw [e1.out] at hN ⊢
      simp only [List.length_append, List.length_cons] at hN
      have hWd : Below w0.heap.size W W.drew := (Below.refl _ _).drew
      have cY := hide fun (W1 : World) (hJ1 : J (pre ++ tr.fal lo) W1) => hY (n - 1) _ (k, v) W1 hJ1 (by simp; omega)
      have ih1 := hide (ihr (n - 1) pr pre W.drew hr hW.drew (hJd _ _ hJ) (by omega))
      have ih3 := hide fun (W2 : World) (hJ2 : J (pre ++ tr.fal lo ++ [(k, v)]) W2) (hb2 : Below w0.heap.size w0 W2) => ihl (n - 1) pl _ W2 hl hb2 hJ2 (by simp; omega)
      have HCS := hide CS
      have HW := Lib.hid (hW.trans hWd)
      have HWd := Lib.hid hWd
      clear ihl ihr hY hl hr hblk hJ hN CS hlt hWd
      refine callsIn_of_wp Try.func27 rfl trivial ?_ hro
      simp only [Try.ntmps27, List.size_toArray, List.length_cons, List.length_nil, Nat.reduceAdd, Nat.reduceSub, Array.replicate_succ, Array.replicate_zero, List.push_toArray, List.append_toArray, List.nil_append, List.cons_append]
      gi_wp2_with fail
      refine region_lex hro hmo (by kernel_rfl) ?_
      repeat (refine lex_yield _ (by rfl) (by rfl) (by go_simp; rfl) ?_; simp only [Act.put, List.setIfInBounds_toArray, List.set_cons_zero, List.set_cons_succ])
      refine lex_call (by rfl) (by rfl) (fun K hK => ?_)
      go_simp
      refine ⟨trivial, hdd, (unhide ih1).mono ?_⟩
      clear ih1
      rintro e W1 (⟨rfl, hJ1, hb1⟩ | ⟨rfl, q, x, hq, hx1⟩)
      · have HW1 := Lib.hid (HW.out.trans hb1)
        have HB1 := Lib.hid (HWd.out.trans hb1)
        obtain ⟨d0, d1, d2, d3⟩ := unhide HCS W1 HW1.out
        have hR := hide (unhide cY W1 hJ1)
        clear hb1 hJ1
        refine hK _ _ ?_
        clear hK K
        repeat (refine lex_yield _ (by rfl) (by rfl) (by go_simp; rfl) ?_; simp only [Act.put, List.setIfInBounds_toArray, List.set_cons_zero, List.set_cons_succ])
        refine lex_call (by rfl) (by rfl) (fun K hK => ?_)
        go_simp
        refine ⟨trivial, hdd, (unhide hR).mono ?_⟩
        clear hR
        rintro e W2 (⟨rfl, hJ2, hb2⟩ | ⟨rfl, hx2⟩)
        · have HW2 := Lib.hid (HW1.out.trans hb2)
          have HB2 := Lib.hid (HB1.out.trans hb2)
          obtain ⟨x0, x1, x2, x3⟩ := unhide HCS W2 HW2.out
          clear hb2
          refine hK _ _ ?_
          clear hK K
          repeat (refine lex_yield _ (by rfl) (by rfl) (by go_simp; rfl) ?_; simp only [Act.put, List.setIfInBounds_toArray, List.set_cons_zero, List.set_cons_succ])
          refine lex_call (by rfl) (by rfl) (fun K hK => ?_)
          go_simp
          refine ⟨trivial, hdd, (unhide ih3 _ hJ2 HW2.out).mono ?_⟩
          rintro e W3 (⟨rfl, hJ3, hb3⟩ | ⟨rfl, q, x, hq, hx3⟩)
          · refine hK _ _ ?_
            clear hK K
            repeat (refine lex_yield _ (by rfl) (by rfl) (by go_simp; rfl) ?_; simp only [Act.put, List.setIfInBounds_toArray, List.set_cons_zero, List.set_cons_succ])
            refine lex_nil ?_
            gi_wp2
            go_ret
            exact .inl ⟨rfl, by simpa [List.append_assoc] using hJ3, HB2.out.trans hb3⟩
          · refine hK _ _ ?_
            clear hK K
            repeat (refine lex_yield _ (by rfl) (by rfl) (by go_simp; rfl) ?_; simp only [Act.put, List.setIfInBounds_toArray, List.set_cons_zero, List.set_cons_succ])
            refine lex_nil ?_
            gi_wp2
            go_ret
            exact .inr ⟨rfl, tr.fal lo ++ (k, v) :: q, x, by obtain ⟨r', hr'⟩ := hq; exact ⟨r', by simp [← hr']⟩, by simpa [List.append_assoc] using hx3⟩
        · refine hK _ _ ?_
          clear hK K
          repeat (refine lex_yield _ (by rfl) (by rfl) (by go_simp; rfl) ?_; simp only [Act.put, List.setIfInBounds_toArray, List.set_cons_zero, List.set_cons_succ])
          repeat (refine lex_skip (by rfl) (by rfl) ?_; simp only [Act.put, List.setIfInBounds_toArray, List.set_cons_zero, List.set_cons_succ])
          refine lex_call_skip (by rfl) (by rfl) (fun _ => trivial) ?_; simp only [Act.put, List.setIfInBounds_toArray, List.set_cons_zero, List.set_cons_succ]
          repeat (refine lex_yield _ (by rfl) (by rfl) (by go_simp; rfl) ?_; simp only [Act.put, List.setIfInBounds_toArray, List.set_cons_zero, List.set_cons_succ])
          refine lex_nil ?_
          gi_wp2
          go_ret
          exact .inr ⟨rfl, tr.fal lo, (k, v), ⟨tl.fal lo, by simp⟩, by simpa [List.append_assoc] using hx2⟩
      · refine hK _ _ ?_
        clear hK K
        repeat (refine lex_yield _ (by rfl) (by rfl) (by go_simp; rfl) ?_; simp only [Act.put, List.setIfInBounds_toArray, List.set_cons_zero, List.set_cons_succ])
        repeat (refine lex_skip (by rfl) (by rfl) ?_; simp only [Act.put, List.setIfInBounds_toArray, List.set_cons_zero, List.set_cons_succ])
        refine lex_call_skip (by rfl) (by rfl) (fun _ => trivial) ?_; simp only [Act.put, List.setIfInBounds_toArray, List.set_cons_zero, List.set_cons_succ]
        repeat (refine lex_yield _ (by rfl) (by rfl) (by go_simp; rfl) ?_; simp only [Act.put, List.setIfInBounds_toArray, List.set_cons_zero, List.set_cons_succ])
        repeat (refine lex_skip (by rfl) (by rfl) ?_; simp only [Act.put, List.setIfInBounds_toArray, List.set_cons_zero, List.set_cons_succ])
        refine lex_call_skip (by rfl) (by rfl) (fun _ => trivial) ?_; simp only [Act.put, List.setIfInBounds_toArray, List.set_cons_zero, List.set_cons_succ]
        repeat (refine lex_yield _ (by rfl) (by rfl) (by go_simp; rfl) ?_; simp only [Act.put, List.setIfInBounds_toArray, List.set_cons_zero, List.set_cons_succ])
        refine lex_nil ?_
        gi_wp2
        go_ret
        exact .inr ⟨rfl, q, x, hq.trans (List.prefix_append _ _), hx1⟩
end Go.Proofs.Ytiffjjophmgdlaa
