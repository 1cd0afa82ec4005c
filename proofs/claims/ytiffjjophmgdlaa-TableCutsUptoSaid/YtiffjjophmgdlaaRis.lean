/-
  Layer 11: rising, From and its iterator.
-/
import Derived.Test.YtiffjjophmgdlaaLex
import Derived.RangeFuncNested
import Derived.RangeFuncBound
import Derived.RangeFuncCalls
import Derived.RangeFuncLeaves
import Derived.RangeFuncBox
import Derived.OwnWalkIn
import Derived.TacticsInMore
import Derived.LoopNIn
import Derived.LoopIn
import Derived.ControlIn
import Derived.Shelf.RegionOpen
import Derived.Shelf.Abstract
namespace Go.Proofs.Ytiffjjophmgdlaa
open Go.RowKit Tb
attribute [local go_sem] Oper.semAt_some

theorem room_of_none {F : Fence} (hd : F.depth = none) (k : Nat) : F.room k := fun d h => by rw [hd] at h; cases h
theorem roundIn_any {F : Fence} (hd : F.depth = none) {m m' : Nat} {P : Program} {l : Nat} {f : FuncId} {tmps : Array Value} {assign body : Code} {w : World} {R : Ending → World → Prop}
    (h : RoundIn F m P l f tmps assign body w R) : RoundIn F m' P l f tmps assign body w R := ⟨h.1, fun c cs _ => h.2 c cs (room_of_none hd _)⟩
theorem yieldAt_any {F : Fence} (hd : F.depth = none) {m : Nat} (m' : Nat) {P : Program} {l : Nat} {args : Array Value} {W : World} {R : Ending → World → Prop} (h : YieldAt F m P l args W R) : YieldAt F m' P l args W R := by
  obtain ⟨fn, tmps, assign, body, hy, hR⟩ := h
  exact ⟨fn, tmps, assign, body, hy, roundIn_any hd hR⟩
theorem ris_lt (k v lo : ByteArray) (l r : Tr) (h : lt k lo = true) : (Tr.node k v l r).ris lo = r.ris lo := by
  conv => lhs; unfold Tr.ris
  rw [h, if_pos rfl]
theorem ris_ge (k v lo : ByteArray) (l r : Tr) (h : lt k lo = false) : (Tr.node k v l r).ris lo = l.ris lo ++ (k, v) :: r.ris lo := by
  conv => lhs; unfold Tr.ris
  rw [h, if_neg (by simp)]
def encR (x : Rw) : Array Value := #[.string x.1, .string x.2]
set_option maxRecDepth 100000 in
set_option maxHeartbeats 4000000 in
theorem rising_in (w0 : World) (l N : Nat) (lo : ByteArray) (J Jx : List Rw → World → Prop) (hJd : ∀ s X, J s X → J s X.drew)
    (hY : ∀ m pre x W, J pre W → pre.length < N → YieldAt Fence.wide m Try.prog l (encR x) W fun e W' =>
      (e = .returned (.bool true) ∧ J (pre ++ [x]) W' ∧ Below w0.heap.size W W') ∨ (e = .returned (.bool false) ∧ Jx (pre ++ [x]) W')) (t : Tr) :
    ∀ (n : Nat) (p : Option Addr) (pre : List Rw) (W : World), At w0 t p → Below w0.heap.size w0 W → J pre W → pre.length + (t.ris lo).length ≤ N →
      CallsIn Fence.wide n Try.prog 23 #[.pointer p, .string lo, .func (.yield l) #[] #[]] W fun e W' =>
        (e = .returned (.bool true) ∧ J (pre ++ t.ris lo) W' ∧ Below w0.heap.size W W') ∨ (e = .returned (.bool false) ∧ ∃ q, q <+: t.ris lo ∧ Jx (pre ++ q) W') := by
  have hro : Fence.wide.round = none := rfl
  have hmo : Try.prog.follows .mixedOrders = true := by kernel_rfl
  induction t with
  | nil =>
    intro n p pre W ht _ hJ _
    obtain rfl : p = none := ht
    have HJ := Lib.hid hJ
    clear hJ hY
    refine callsIn_of_wp Try.func23 rfl trivial ?_ hro
    simp only [Try.ntmps23, List.size_toArray, List.length_cons, List.length_nil, Nat.reduceAdd, Nat.reduceSub, Array.replicate_succ, Array.replicate_zero, List.push_toArray, List.append_toArray, List.nil_append, List.cons_append]
    gi_wp2
    go_ret
    exact .inl ⟨rfl, by simpa [Tr.ris] using HJ.out, Below.refl _ _⟩
  | node k v tl tr ihl ihr =>
    intro n p pre W ht hW hJ hN
    have hdd : Fence.wide.depth.isSome = true → 1 ≤ n := fun h => by cases h
    obtain ⟨g, pl, pr, rfl, hblk, hl, hr⟩ := ht
    have hglt := hblk.lt
    have CS : ∀ W : World, Below w0.heap.size w0 W → (W.cell? ⟨g, 0, none⟩ = some (.string k) ∧ W.cell? ⟨g, 1, none⟩ = some (.string v) ∧ W.cell? ⟨g, 2, none⟩ = some (.pointer pl) ∧ W.cell? ⟨g, 3, none⟩ = some (.pointer pr)) := fun W hW => by
      obtain ⟨y0, y1, y2, y3, _, _⟩ := nd_cells (hblk.below hW hglt)
      exact ⟨y0, y1, y2, y3⟩
    obtain ⟨c0, c1, c2, c3⟩ := CS W hW
    cases hlt : lt k lo with
    | true =>
      have f1 : Op.bytesLess k.toList lo.toList = true := by rw [toList_lt]; exact hlt
      have e1 : Hid ((Tr.node k v tl tr).ris lo = tr.ris lo) := Lib.hid (ris_lt _ _ _ _ _ hlt)
      rw [e1.out] at hN ⊢
      have ih2 := hide (ihr (n - 1) pr pre W hr hW hJ hN)
      clear ihl ihr hY hl hr hblk hJ hN CS hlt
      refine callsIn_of_wp Try.func23 rfl trivial ?_ hro
      simp only [Try.ntmps23, List.size_toArray, List.length_cons, List.length_nil, Nat.reduceAdd, Nat.reduceSub, Array.replicate_succ, Array.replicate_zero, List.push_toArray, List.append_toArray, List.nil_append, List.cons_append]
      gi_wp2_with (refine ⟨trivial, hdd, ?_⟩; refine (unhide ih2).mono ?_; clear ih2; rintro e W1 (⟨rfl, hJ1, hb1⟩ | ⟨rfl, q, hq, hx1⟩))
      · go_ret
        exact .inl ⟨rfl, hJ1, hb1⟩
      · go_ret
        exact .inr ⟨rfl, q, hq, hx1⟩
    | false =>
      have f1 : Op.bytesLess k.toList lo.toList = false := by rw [toList_lt]; exact hlt
      have e1 : Hid ((Tr.node k v tl tr).ris lo = tl.ris lo ++ (k, v) :: tr.ris lo) := Lib.hid (ris_ge _ _ _ _ _ hlt)
      rw [e1.out] at hN ⊢
      simp only [List.length_append, List.length_cons] at hN
      have hWd : Below w0.heap.size W W.drew := (Below.refl _ _).drew
      have hy2 : ∀ W1, J (pre ++ tl.ris lo) W1 → Below w0.heap.size W W1 → YieldAt Fence.wide (n - 1) Try.prog l #[.string k, .string v] W1 fun e W2 =>
          (e = .returned (.bool true) ∧ J (pre ++ tl.ris lo ++ [(k, v)]) W2 ∧ Below w0.heap.size W W2 ∧ W2.cell? ⟨g, 3, none⟩ = some (.pointer pr) ∧ Below w0.heap.size w0 W2) ∨ (e = .returned (.bool false) ∧ Jx (pre ++ tl.ris lo ++ [(k, v)]) W2) := fun W1 hJ1 hb1 =>
        YieldAt.mono (hY (n - 1) _ (k, v) W1 hJ1 (by simp; omega)) fun e W2 h => h.elim
          (fun ⟨he, hj, hb2⟩ => .inl ⟨he, hj, hb1.trans hb2, (CS W2 (hW.trans (hb1.trans hb2))).2.2.2, hW.trans (hb1.trans hb2)⟩) .inr
      have ih1 := hide ((ihl (n - 1) pl pre W.drew hl hW.drew (hJd _ _ hJ) (by omega)).mono (R' := fun e W1 =>
          (e = .returned (.bool true) ∧ W1.cell? ⟨g, 0, none⟩ = some (.string k) ∧ W1.cell? ⟨g, 1, none⟩ = some (.string v) ∧ W1.cell? ⟨g, 3, none⟩ = some (.pointer pr) ∧ YieldAt Fence.wide (n - 1) Try.prog l #[.string k, .string v] W1 fun e W2 =>
            (e = .returned (.bool true) ∧ J (pre ++ tl.ris lo ++ [(k, v)]) W2 ∧ Below w0.heap.size W W2 ∧ W2.cell? ⟨g, 3, none⟩ = some (.pointer pr) ∧ Below w0.heap.size w0 W2) ∨ (e = .returned (.bool false) ∧ Jx (pre ++ tl.ris lo ++ [(k, v)]) W2)) ∨
          (e = .returned (.bool false) ∧ ∃ q, q <+: tl.ris lo ∧ Jx (pre ++ q) W1))
        (fun e W1 h => h.elim (fun ⟨he, hj, hb1⟩ => .inl ⟨he, (CS W1 (hW.trans (hWd.trans hb1))).1, (CS W1 (hW.trans (hWd.trans hb1))).2.1, (CS W1 (hW.trans (hWd.trans hb1))).2.2.2, hy2 W1 hj (hWd.trans hb1)⟩) .inr))
      have ih3 := hide fun (W2 : World) (hJ2 : J (pre ++ tl.ris lo ++ [(k, v)]) W2) (hb2 : Below w0.heap.size w0 W2) => ihr (n - 1) pr _ W2 hr hb2 hJ2 (by simp; omega)
      clear hy2 ihl ihr hY hl hr hblk hJ hN CS hlt
      refine callsIn_of_wp Try.func23 rfl trivial ?_ hro
      simp only [Try.ntmps23, List.size_toArray, List.length_cons, List.length_nil, Nat.reduceAdd, Nat.reduceSub, Array.replicate_succ, Array.replicate_zero, List.push_toArray, List.append_toArray, List.nil_append, List.cons_append]
      gi_wp2_with fail
      refine region_lex hro hmo (by kernel_rfl) ?_
      repeat (refine lex_yield _ (by rfl) (by rfl) (by go_simp; rfl) ?_; simp only [Act.put, List.setIfInBounds_toArray, List.set_cons_zero, List.set_cons_succ])
      refine lex_call (by rfl) (by rfl) (fun K hK => ?_)
      go_simp
      refine ⟨trivial, hdd, (unhide ih1).mono ?_⟩
      clear ih1
      rintro e W1 (⟨rfl, d0, d1, d3, fn, tmps, assign, body, hy, hR⟩ | ⟨rfl, q, hq, hx1⟩)
      · refine hK _ _ ?_
        clear hK K
        repeat (refine lex_yield _ (by rfl) (by rfl) (by go_simp; rfl) ?_; simp only [Act.put, List.setIfInBounds_toArray, List.set_cons_zero, List.set_cons_succ])
        refine lex_call (by rfl) (by rfl) (fun K hK => ?_)
        go_simp
        refine ⟨hdd, hR.mono ?_⟩
        clear hR
        rintro e W2 (⟨rfl, hJ2, hb2, e3, hw2⟩ | ⟨rfl, hx2⟩)
        · refine hK _ _ ?_
          clear hK K
          repeat (refine lex_yield _ (by rfl) (by rfl) (by go_simp; rfl) ?_; simp only [Act.put, List.setIfInBounds_toArray, List.set_cons_zero, List.set_cons_succ])
          refine lex_call (by rfl) (by rfl) (fun K hK => ?_)
          go_simp
          refine ⟨trivial, hdd, (unhide ih3 _ hJ2 hw2).mono ?_⟩
          rintro e W3 (⟨rfl, hJ3, hb3⟩ | ⟨rfl, q, hq, hx3⟩)
          · refine hK _ _ ?_
            clear hK K
            repeat (refine lex_yield _ (by rfl) (by rfl) (by go_simp; rfl) ?_; simp only [Act.put, List.setIfInBounds_toArray, List.set_cons_zero, List.set_cons_succ])
            refine lex_nil ?_
            gi_wp2
            go_ret
            exact .inl ⟨rfl, by simpa [List.append_assoc] using hJ3, hb2.trans hb3⟩
          · refine hK _ _ ?_
            clear hK K
            repeat (refine lex_yield _ (by rfl) (by rfl) (by go_simp; rfl) ?_; simp only [Act.put, List.setIfInBounds_toArray, List.set_cons_zero, List.set_cons_succ])
            refine lex_nil ?_
            gi_wp2
            go_ret
            exact .inr ⟨rfl, tl.ris lo ++ (k, v) :: q, by obtain ⟨r', hr'⟩ := hq; exact ⟨r', by simp [← hr']⟩, by simpa [List.append_assoc] using hx3⟩
        · refine hK _ _ ?_
          clear hK K
          repeat (refine lex_yield _ (by rfl) (by rfl) (by go_simp; rfl) ?_; simp only [Act.put, List.setIfInBounds_toArray, List.set_cons_zero, List.set_cons_succ])
          repeat (refine lex_skip (by rfl) (by rfl) ?_; simp only [Act.put, List.setIfInBounds_toArray, List.set_cons_zero, List.set_cons_succ])
          refine lex_call_skip (by rfl) (by rfl) (fun _ => trivial) ?_; simp only [Act.put, List.setIfInBounds_toArray, List.set_cons_zero, List.set_cons_succ]
          repeat (refine lex_yield _ (by rfl) (by rfl) (by go_simp; rfl) ?_; simp only [Act.put, List.setIfInBounds_toArray, List.set_cons_zero, List.set_cons_succ])
          refine lex_nil ?_
          gi_wp2
          go_ret
          exact .inr ⟨rfl, tl.ris lo ++ [(k, v)], ⟨tr.ris lo, by simp⟩, by simpa [List.append_assoc] using hx2⟩
      · refine hK _ _ ?_
        clear hK K
        repeat (refine lex_yield _ (by rfl) (by rfl) (by go_simp; rfl) ?_; simp only [Act.put, List.setIfInBounds_toArray, List.set_cons_zero, List.set_cons_succ])
        repeat (refine lex_skip (by rfl) (by rfl) ?_; simp only [Act.put, List.setIfInBounds_toArray, List.set_cons_zero, List.set_cons_succ])
        refine lex_call_skip (by rfl) (by rfl) (fun _ => trivial) ?_; simp only [Act.put, List.setIfInBounds_toArray, List.set_cons_zero, List.set_cons_succ]
        repeat (refine lex_yield _ (by rfl) (by rfl) (by go_simp; rfl) ?_; simp only [Act.put, List.setIfInBounds_toArray, List.set_cons_zero, List.set_cons_succ])
        repeat (refine lex_skip (by rfl) (by rfl) ?_; simp only [Act.put, List.setIfInBounds_toArray, List.set_cons_zero, List.set_cons_succ])
        refine lex_call_skip (by rfl) (by rfl) (fun _ => trivial) ?_; simp only [Act.put, List.setIfInBounds_toArray, List.set_cons_zero, List.set_cons_succ]
        repeat (refine lex_yield _ (by rfl) (by rfl) (by go_simp; rfl) ?_; simp only [Act.put, List.setIfInBounds_toArray, List.set_cons_zero, List.set_cons_succ])
        refine lex_nil ?_
        gi_wp2
        go_ret
        exact .inr ⟨rfl, q, hq.trans (List.prefix_append _ _), hx1⟩
end Go.Proofs.Ytiffjjophmgdlaa
