/-
  Walks over statements of layer 3, more: slips.
-/
import Derived.Test.YtnigkjpcccccbaaDoorLaws4
import Derived.BigRegion
namespace Go.Proofs.YtnigkjpcccccbaaDoor
open Go.RowKit

theorem class_any (c : UInt8) (w : World) :
    Calls Tryd.prog 27 #[.int .u8 (c.toNat : Int)] w fun e w' => e = .returned (.int .i64 (Chk.cls c)) ∧ w = w' := by
  have hlt := c.toNat_lt
  by_cases hd : Chk.isDig c = true
  · have HC := Lib.hid (show Chk.cls c = 1 by unfold Chk.cls; rw [if_pos hd])
    have h2 := (Chk.isDig_iff c).1 hd
    clear hd
    go_enter Tryd.func27, Tryd.ntmps27
    go_wp2
    go_ret
    exact ⟨by rw [HC.out]; rfl, rfl⟩
  · have h2 : ¬ (48 ≤ (c.toNat : Int) ∧ (c.toNat : Int) ≤ 57) := fun h => hd ((Chk.isDig_iff c).2 h)
    by_cases hk : Chk.isCap c = true
    · have HC := Lib.hid (show Chk.cls c = 2 by unfold Chk.cls; rw [if_neg hd, if_pos hk])
      have h3 := (Chk.isCap_iff c).1 hk
      have h4 : ¬ ((c.toNat : Int) ≤ 57) := by omega
      clear hd hk h2
      go_enter Tryd.func27, Tryd.ntmps27
      go_wp2
      go_ret
      exact ⟨by rw [HC.out]; rfl, rfl⟩
    · have h3 : ¬ (65 ≤ (c.toNat : Int) ∧ (c.toNat : Int) ≤ 90) := fun h => hk ((Chk.isCap_iff c).2 h)
      have HC := Lib.hid (show Chk.cls c = 0 by unfold Chk.cls; rw [if_neg hd, if_neg hk])
      clear hd hk
      rcases (by omega : (c.toNat : Int) < 48 ∨ (57 < (c.toNat : Int) ∧ (c.toNat : Int) < 65) ∨ 90 < (c.toNat : Int)) with h | ⟨h, h'⟩ | h <;>
      · clear h2 h3
        go_enter Tryd.func27, Tryd.ntmps27
        go_wp2
        go_ret
        exact ⟨by rw [HC.out]; rfl, rfl⟩

theorem class_val (c : UInt8) (k : Int) (h : Hid (Chk.cls c = k)) (w : World) :
    Calls Tryd.prog 27 #[.int .u8 (c.toNat : Int)] w fun e w' => e = .returned (.int .i64 k) ∧ w = w' := by
  have := class_any c w
  rw [h.out] at this
  exact this
theorem conv1 (w : World) (g : Nat) (a : UInt8) (cap : Nat) (h : w.cell? ⟨g, 0, none⟩ = some (.int .u8 (a.toNat : Int))) :
    (convert 28 9 (.slice (some ⟨g, 0, none⟩) 1 cap)).run Tryd.prog w = .ok (.string ⟨#[a]⟩) w := by
  refine run_convert_bytes_back _ 28 9 5 ⟨g, 0, none⟩ cap [a] Tryd.underlying28 Tryd.underlying5 Tryd.underlying9 ?_
  intro j hj
  match j, hj with
  | 0, _ => exact h
theorem conv1_new (w : World) (n : Nat) (a : UInt8) :
    (convert 28 9 (.slice (some ⟨w.heap.size, 0, none⟩) 1 1)).run Tryd.prog ((w.drewN n).alloc (.cells #[.int .u8 (a.toNat : Int)] 5)) = .ok (.string ⟨#[a]⟩) ((w.drewN n).alloc (.cells #[.int .u8 (a.toNat : Int)] 5)) :=
  conv1 _ _ a 1 (World.cell?_alloc_at (w := w.drewN n) _ _ _ 0 rfl)
theorem conv2_new (w : World) (n : Nat) (a b : UInt8) :
    (convert 28 9 (.slice (some ⟨w.heap.size, 0, none⟩) 2 2)).run Tryd.prog ((w.drewN n).alloc (.cells #[.int .u8 (a.toNat : Int), .int .u8 (b.toNat : Int)] 5)) = .ok (.string ⟨#[a, b]⟩) ((w.drewN n).alloc (.cells #[.int .u8 (a.toNat : Int), .int .u8 (b.toNat : Int)] 5)) := by
  have ha := a.toNat_lt
  have hb := b.toNat_lt
  have := conv2 (w.drewN n) (a.toNat : Int) (b.toNat : Int) (by omega) (by omega)
  simp only [Int.toNat_natCast, UInt8.ofNat_toNat] at this
  exact this
def oneStr (s : ByteArray) (i : Nat) (c : UInt8) : ByteArray := s.extract 0 i ++ ⟨#[c]⟩ ++ s.extract (i + 1) s.size
def twoStr (s : ByteArray) (i : Nat) (b a : UInt8) : ByteArray := s.extract 0 i ++ ⟨#[b, a]⟩ ++ s.extract (i + 2) s.size
theorem neq_u8 {a b : UInt8} (h : a ≠ b) : ((a.toNat : Int) != (b.toNat : Int)) = true := bne_iff_ne.2 fun e => h (UInt8.toNat_inj.1 (by omega))
theorem eq_u8 {a b : UInt8} (h : a = b) : ((a.toNat : Int) != (b.toNat : Int)) = false := by rw [h]; simp
theorem beq_no {a b : Int} (h : a ≠ b) : (a == b) = false := beq_eq_false_iff_ne.2 h
set_option maxRecDepth 100000 in
set_option maxHeartbeats 1000000 in
theorem slip_11 (s : ByteArray) (hs : s.size ≤ 1000000000000000) (at' : Nat) (hat : at' < s.size) (c : UInt8) (w : World)
    (hA : c ≠ s[at']'hat) (k : Int) (h1 : Hid (Chk.cls c = k)) (h2 : Hid (Chk.cls (s[at']'hat) = k)) (hi : at' + 1 < s.size) (hB : s[at']'hat ≠ s[at' + 1]'hi) (h3 : Hid (Chk.cls (s[at' + 1]'hi) = k)) :
    Calls Tryd.prog 23 #[.string s, .int .i64 at', .int .u8 (c.toNat : Int)] w fun e w' => e = .returned (.tuple #[.string (oneStr s at' c), .string (twoStr s at' (s[at' + 1]'hi) (s[at']'hat))]) ∧ Below w.heap.size w w' := by
  have hlt := c.toNat_lt
  have hlt2 := (s[at']'hat).toNat_lt
  have hat2 : (at' : Int) < (s.size : Int) := by omega
  have hat3 : at' ≤ s.size := by omega
  have hat4 : (at' : Int) + 1 ≤ (s.size : Int) := by omega
  have hat5 : at' + 1 ≤ s.size := by omega
  have hA1 := neq_u8 hA
  have hk1 := fun (W : World) (n : Nat) => quiet_of_left (class_val c k h1 (W.drewN n))
  have hk2 := fun (W : World) (n : Nat) => quiet_of_left (class_val (s[at']'hat) k h2 (W.drewN n))
  have hcv := fun n : Nat => conv1_new w n c
  have hi2 : (at' : Int) + 1 < (s.size : Int) := by omega
  have hlt3 := (s[at' + 1]'hi).toNat_lt
  have hB1 := neq_u8 hB
  have hk3 := fun (W : World) (n : Nat) => quiet_of_left (class_val (s[at' + 1]'hi) k h3 (W.drewN n))
  have hi5 : at' + 2 ≤ s.size := by omega
  have hi6 : (at' : Int) + 2 ≤ (s.size : Int) := by omega
  clear hB
  clear hA
  go_enter Tryd.func23, Tryd.ntmps23
  go_wp2
  go_quiet ((go_at_call 27; first | with_reducible exact hk1 _ _ | with_reducible exact hk2 _ _))
  go_wp2
  go_region
  clear hcv
  have hb1 : Hid (Below w.heap.size w ((w.drewN (nq + 1)).alloc (.cells #[.int .u8 (c.toNat : Int)] 5))) := Lib.hid ((below_drewN (Below.refl _ w) (nq + 1)).alloc (Nat.le_refl _) _)
  clear hA1
  generalize ((w.drewN (nq + 1)).alloc (.cells #[.int .u8 (c.toNat : Int)] 5)) = w1 at hb1 ⊢
  clear nq
  have hcv2 := fun n : Nat => conv2_new w1 n (s[at' + 1]'hi) (s[at']'hat)
  go_wp2
  have hws : IntKind.i64.wrap ((at' : Int) + 1) = (at' : Int) + 1 := IntWalk.i64_in _ (by omega)
  have hws0 : (0 : Int) ≤ (at' : Int) + 1 := by omega
  have hwt : ((at' : Int) + 1).toNat = at' + 1 := by omega
  go_quiet ((go_at_call 27; first | with_reducible exact hk2 _ _ | with_reducible exact hk3 _ _))
  clear hws
  go_wp2
  go_region
  go_wp2
  go_ret2
  exact ⟨rfl, (below_drewN hb1.out (nq + 1)).alloc (show w.heap.size ≤ w1.heap.size from hb1.out.size) _⟩
set_option maxRecDepth 100000 in
set_option maxHeartbeats 1000000 in
theorem slip_12 (s : ByteArray) (hs : s.size ≤ 1000000000000000) (at' : Nat) (hat : at' < s.size) (c : UInt8) (w : World)
    (hA : c ≠ s[at']'hat) (k : Int) (h1 : Hid (Chk.cls c = k)) (h2 : Hid (Chk.cls (s[at']'hat) = k)) (hi : s.size ≤ at' + 1) :
    Calls Tryd.prog 23 #[.string s, .int .i64 at', .int .u8 (c.toNat : Int)] w fun e w' => e = .returned (.tuple #[.string (oneStr s at' c), .string ⟨#[]⟩]) ∧ Below w.heap.size w w' := by
  have hlt := c.toNat_lt
  have hlt2 := (s[at']'hat).toNat_lt
  have hat2 : (at' : Int) < (s.size : Int) := by omega
  have hat3 : at' ≤ s.size := by omega
  have hat4 : (at' : Int) + 1 ≤ (s.size : Int) := by omega
  have hat5 : at' + 1 ≤ s.size := by omega
  have hA1 := neq_u8 hA
  have hk1 := fun (W : World) (n : Nat) => quiet_of_left (class_val c k h1 (W.drewN n))
  have hk2 := fun (W : World) (n : Nat) => quiet_of_left (class_val (s[at']'hat) k h2 (W.drewN n))
  have hcv := fun n : Nat => conv1_new w n c
  have hi2 : decide ((at' : Int) + 1 < (s.size : Int)) = false := decide_eq_false (by omega)
  clear hi
  clear hA
  go_enter Tryd.func23, Tryd.ntmps23
  go_wp2
  go_quiet ((go_at_call 27; first | with_reducible exact hk1 _ _ | with_reducible exact hk2 _ _))
  go_wp2
  go_region
  clear hcv
  have hb1 : Hid (Below w.heap.size w ((w.drewN (nq + 1)).alloc (.cells #[.int .u8 (c.toNat : Int)] 5))) := Lib.hid ((below_drewN (Below.refl _ w) (nq + 1)).alloc (Nat.le_refl _) _)
  clear hA1
  generalize ((w.drewN (nq + 1)).alloc (.cells #[.int .u8 (c.toNat : Int)] 5)) = w1 at hb1 ⊢
  clear nq
  go_wp2
  have hws : IntKind.i64.wrap ((at' : Int) + 1) = (at' : Int) + 1 := IntWalk.i64_in _ (by omega)
  have hws0 : (0 : Int) ≤ (at' : Int) + 1 := by omega
  have hwt : ((at' : Int) + 1).toNat = at' + 1 := by omega
  go_quiet (fail)
  clear hws
  go_wp2
  go_ret2
  exact ⟨rfl, below_drewN hb1.out _⟩
set_option maxRecDepth 100000 in
set_option maxHeartbeats 1000000 in
theorem slip_13 (s : ByteArray) (hs : s.size ≤ 1000000000000000) (at' : Nat) (hat : at' < s.size) (c : UInt8) (w : World)
    (hA : c ≠ s[at']'hat) (k : Int) (h1 : Hid (Chk.cls c = k)) (h2 : Hid (Chk.cls (s[at']'hat) = k)) (hi : at' + 1 < s.size) (hB : s[at']'hat = s[at' + 1]'hi) :
    Calls Tryd.prog 23 #[.string s, .int .i64 at', .int .u8 (c.toNat : Int)] w fun e w' => e = .returned (.tuple #[.string (oneStr s at' c), .string ⟨#[]⟩]) ∧ Below w.heap.size w w' := by
  have hlt := c.toNat_lt
  have hlt2 := (s[at']'hat).toNat_lt
  have hat2 : (at' : Int) < (s.size : Int) := by omega
  have hat3 : at' ≤ s.size := by omega
  have hat4 : (at' : Int) + 1 ≤ (s.size : Int) := by omega
  have hat5 : at' + 1 ≤ s.size := by omega
  have hA1 := neq_u8 hA
  have hk1 := fun (W : World) (n : Nat) => quiet_of_left (class_val c k h1 (W.drewN n))
  have hk2 := fun (W : World) (n : Nat) => quiet_of_left (class_val (s[at']'hat) k h2 (W.drewN n))
  have hcv := fun n : Nat => conv1_new w n c
  have hi2 : (at' : Int) + 1 < (s.size : Int) := by omega
  have hlt3 := (s[at' + 1]'hi).toNat_lt
  have hB1 := eq_u8 hB
  clear hB
  clear hA
  go_enter Tryd.func23, Tryd.ntmps23
  go_wp2
  go_quiet ((go_at_call 27; first | with_reducible exact hk1 _ _ | with_reducible exact hk2 _ _))
  go_wp2
  go_region
  clear hcv
  have hb1 : Hid (Below w.heap.size w ((w.drewN (nq + 1)).alloc (.cells #[.int .u8 (c.toNat : Int)] 5))) := Lib.hid ((below_drewN (Below.refl _ w) (nq + 1)).alloc (Nat.le_refl _) _)
  clear hA1
  generalize ((w.drewN (nq + 1)).alloc (.cells #[.int .u8 (c.toNat : Int)] 5)) = w1 at hb1 ⊢
  clear nq
  go_wp2
  have hws : IntKind.i64.wrap ((at' : Int) + 1) = (at' : Int) + 1 := IntWalk.i64_in _ (by omega)
  have hws0 : (0 : Int) ≤ (at' : Int) + 1 := by omega
  have hwt : ((at' : Int) + 1).toNat = at' + 1 := by omega
  go_quiet (fail)
  clear hws
  go_wp2
  go_ret2
  exact ⟨rfl, below_drewN hb1.out _⟩
set_option maxRecDepth 100000 in
set_option maxHeartbeats 1000000 in
theorem slip_14 (s : ByteArray) (hs : s.size ≤ 1000000000000000) (at' : Nat) (hat : at' < s.size) (c : UInt8) (w : World)
    (hA : c ≠ s[at']'hat) (k : Int) (h1 : Hid (Chk.cls c = k)) (h2 : Hid (Chk.cls (s[at']'hat) = k)) (hi : at' + 1 < s.size) (hB : s[at']'hat ≠ s[at' + 1]'hi) (k3 : Int) (h3 : Hid (Chk.cls (s[at' + 1]'hi) = k3)) (hk3 : k ≠ k3) :
    Calls Tryd.prog 23 #[.string s, .int .i64 at', .int .u8 (c.toNat : Int)] w fun e w' => e = .returned (.tuple #[.string (oneStr s at' c), .string ⟨#[]⟩]) ∧ Below w.heap.size w w' := by
  have hlt := c.toNat_lt
  have hlt2 := (s[at']'hat).toNat_lt
  have hat2 : (at' : Int) < (s.size : Int) := by omega
  have hat3 : at' ≤ s.size := by omega
  have hat4 : (at' : Int) + 1 ≤ (s.size : Int) := by omega
  have hat5 : at' + 1 ≤ s.size := by omega
  have hA1 := neq_u8 hA
  have hk1 := fun (W : World) (n : Nat) => quiet_of_left (class_val c k h1 (W.drewN n))
  have hk2 := fun (W : World) (n : Nat) => quiet_of_left (class_val (s[at']'hat) k h2 (W.drewN n))
  have hcv := fun n : Nat => conv1_new w n c
  have hi2 : (at' : Int) + 1 < (s.size : Int) := by omega
  have hlt3 := (s[at' + 1]'hi).toNat_lt
  have hB1 := neq_u8 hB
  have hB2 := beq_no hk3
  have hk3 := fun (W : World) (n : Nat) => quiet_of_left (class_val (s[at' + 1]'hi) k3 h3 (W.drewN n))
  clear hB
  clear hA
  go_enter Tryd.func23, Tryd.ntmps23
  go_wp2
  go_quiet ((go_at_call 27; first | with_reducible exact hk1 _ _ | with_reducible exact hk2 _ _))
  go_wp2
  go_region
  clear hcv
  have hb1 : Hid (Below w.heap.size w ((w.drewN (nq + 1)).alloc (.cells #[.int .u8 (c.toNat : Int)] 5))) := Lib.hid ((below_drewN (Below.refl _ w) (nq + 1)).alloc (Nat.le_refl _) _)
  clear hA1
  generalize ((w.drewN (nq + 1)).alloc (.cells #[.int .u8 (c.toNat : Int)] 5)) = w1 at hb1 ⊢
  clear nq
  go_wp2
  have hws : IntKind.i64.wrap ((at' : Int) + 1) = (at' : Int) + 1 := IntWalk.i64_in _ (by omega)
  have hws0 : (0 : Int) ≤ (at' : Int) + 1 := by omega
  have hwt : ((at' : Int) + 1).toNat = at' + 1 := by omega
  go_quiet ((go_at_call 27; first | with_reducible exact hk2 _ _ | with_reducible exact hk3 _ _))
  clear hws
  go_wp2
  go_ret2
  exact ⟨rfl, below_drewN hb1.out _⟩
set_option maxRecDepth 100000 in
set_option maxHeartbeats 1000000 in
theorem slip_21 (s : ByteArray) (hs : s.size ≤ 1000000000000000) (at' : Nat) (hat : at' < s.size) (c : UInt8) (w : World)
    (hA : c = s[at']'hat) (k : Int) (h2 : Hid (Chk.cls (s[at']'hat) = k)) (hi : at' + 1 < s.size) (hB : s[at']'hat ≠ s[at' + 1]'hi) (h3 : Hid (Chk.cls (s[at' + 1]'hi) = k)) :
    Calls Tryd.prog 23 #[.string s, .int .i64 at', .int .u8 (c.toNat : Int)] w fun e w' => e = .returned (.tuple #[.string ⟨#[]⟩, .string (twoStr s at' (s[at' + 1]'hi) (s[at']'hat))]) ∧ Below w.heap.size w w' := by
  have hlt := c.toNat_lt
  have hlt2 := (s[at']'hat).toNat_lt
  have hat2 : (at' : Int) < (s.size : Int) := by omega
  have hat3 : at' ≤ s.size := by omega
  have hat4 : (at' : Int) + 1 ≤ (s.size : Int) := by omega
  have hat5 : at' + 1 ≤ s.size := by omega
  have hA1 := eq_u8 hA
  have hk2 := fun (W : World) (n : Nat) => quiet_of_left (class_val (s[at']'hat) k h2 (W.drewN n))
  have hi2 : (at' : Int) + 1 < (s.size : Int) := by omega
  have hlt3 := (s[at' + 1]'hi).toNat_lt
  have hB1 := neq_u8 hB
  have hk3 := fun (W : World) (n : Nat) => quiet_of_left (class_val (s[at' + 1]'hi) k h3 (W.drewN n))
  have hi5 : at' + 2 ≤ s.size := by omega
  have hi6 : (at' : Int) + 2 ≤ (s.size : Int) := by omega
  clear hB
  clear hA
  go_enter Tryd.func23, Tryd.ntmps23
  go_wp2
  go_quiet (fail)
  have hb1 : Hid (Below w.heap.size w (w.drewN nq)) := Lib.hid (below_drewN (Below.refl _ w) nq)
  clear hA1
  generalize (w.drewN nq) = w1 at hb1 ⊢
  clear nq
  have hcv2 := fun n : Nat => conv2_new w1 n (s[at' + 1]'hi) (s[at']'hat)
  go_wp2
  have hws : IntKind.i64.wrap ((at' : Int) + 1) = (at' : Int) + 1 := IntWalk.i64_in _ (by omega)
  have hws0 : (0 : Int) ≤ (at' : Int) + 1 := by omega
  have hwt : ((at' : Int) + 1).toNat = at' + 1 := by omega
  go_quiet ((go_at_call 27; first | with_reducible exact hk2 _ _ | with_reducible exact hk3 _ _))
  clear hws
  go_wp2
  go_region
  go_wp2
  go_ret2
  exact ⟨rfl, (below_drewN hb1.out (nq + 1)).alloc (show w.heap.size ≤ w1.heap.size from hb1.out.size) _⟩
set_option maxRecDepth 100000 in
set_option maxHeartbeats 1000000 in
theorem slip_22 (s : ByteArray) (hs : s.size ≤ 1000000000000000) (at' : Nat) (hat : at' < s.size) (c : UInt8) (w : World)
    (hA : c = s[at']'hat) (k : Int) (h2 : Hid (Chk.cls (s[at']'hat) = k)) (hi : s.size ≤ at' + 1) :
    Calls Tryd.prog 23 #[.string s, .int .i64 at', .int .u8 (c.toNat : Int)] w fun e w' => e = .returned (.tuple #[.string ⟨#[]⟩, .string ⟨#[]⟩]) ∧ Below w.heap.size w w' := by
  have hlt := c.toNat_lt
  have hlt2 := (s[at']'hat).toNat_lt
  have hat2 : (at' : Int) < (s.size : Int) := by omega
  have hat3 : at' ≤ s.size := by omega
  have hat4 : (at' : Int) + 1 ≤ (s.size : Int) := by omega
  have hat5 : at' + 1 ≤ s.size := by omega
  have hA1 := eq_u8 hA
  have hk2 := fun (W : World) (n : Nat) => quiet_of_left (class_val (s[at']'hat) k h2 (W.drewN n))
  have hi2 : decide ((at' : Int) + 1 < (s.size : Int)) = false := decide_eq_false (by omega)
  clear hi
  clear hA
  go_enter Tryd.func23, Tryd.ntmps23
  go_wp2
  go_quiet (fail)
  have hb1 : Hid (Below w.heap.size w (w.drewN nq)) := Lib.hid (below_drewN (Below.refl _ w) nq)
  clear hA1
  generalize (w.drewN nq) = w1 at hb1 ⊢
  clear nq
  go_wp2
  have hws : IntKind.i64.wrap ((at' : Int) + 1) = (at' : Int) + 1 := IntWalk.i64_in _ (by omega)
  have hws0 : (0 : Int) ≤ (at' : Int) + 1 := by omega
  have hwt : ((at' : Int) + 1).toNat = at' + 1 := by omega
  go_quiet (fail)
  clear hws
  go_wp2
  go_ret2
  exact ⟨rfl, below_drewN hb1.out _⟩
set_option maxRecDepth 100000 in
set_option maxHeartbeats 1000000 in
theorem slip_23 (s : ByteArray) (hs : s.size ≤ 1000000000000000) (at' : Nat) (hat : at' < s.size) (c : UInt8) (w : World)
    (hA : c = s[at']'hat) (k : Int) (h2 : Hid (Chk.cls (s[at']'hat) = k)) (hi : at' + 1 < s.size) (hB : s[at']'hat = s[at' + 1]'hi) :
    Calls Tryd.prog 23 #[.string s, .int .i64 at', .int .u8 (c.toNat : Int)] w fun e w' => e = .returned (.tuple #[.string ⟨#[]⟩, .string ⟨#[]⟩]) ∧ Below w.heap.size w w' := by
  have hlt := c.toNat_lt
  have hlt2 := (s[at']'hat).toNat_lt
  have hat2 : (at' : Int) < (s.size : Int) := by omega
  have hat3 : at' ≤ s.size := by omega
  have hat4 : (at' : Int) + 1 ≤ (s.size : Int) := by omega
  have hat5 : at' + 1 ≤ s.size := by omega
  have hA1 := eq_u8 hA
  have hk2 := fun (W : World) (n : Nat) => quiet_of_left (class_val (s[at']'hat) k h2 (W.drewN n))
  have hi2 : (at' : Int) + 1 < (s.size : Int) := by omega
  have hlt3 := (s[at' + 1]'hi).toNat_lt
  have hB1 := eq_u8 hB
  clear hB
  clear hA
  go_enter Tryd.func23, Tryd.ntmps23
  go_wp2
  go_quiet (fail)
  have hb1 : Hid (Below w.heap.size w (w.drewN nq)) := Lib.hid (below_drewN (Below.refl _ w) nq)
  clear hA1
  generalize (w.drewN nq) = w1 at hb1 ⊢
  clear nq
  go_wp2
  have hws : IntKind.i64.wrap ((at' : Int) + 1) = (at' : Int) + 1 := IntWalk.i64_in _ (by omega)
  have hws0 : (0 : Int) ≤ (at' : Int) + 1 := by omega
  have hwt : ((at' : Int) + 1).toNat = at' + 1 := by omega
  go_quiet (fail)
  clear hws
  go_wp2
  go_ret2
  exact ⟨rfl, below_drewN hb1.out _⟩
set_option maxRecDepth 100000 in
set_option maxHeartbeats 1000000 in
theorem slip_24 (s : ByteArray) (hs : s.size ≤ 1000000000000000) (at' : Nat) (hat : at' < s.size) (c : UInt8) (w : World)
    (hA : c = s[at']'hat) (k : Int) (h2 : Hid (Chk.cls (s[at']'hat) = k)) (hi : at' + 1 < s.size) (hB : s[at']'hat ≠ s[at' + 1]'hi) (k3 : Int) (h3 : Hid (Chk.cls (s[at' + 1]'hi) = k3)) (hk3 : k ≠ k3) :
    Calls Tryd.prog 23 #[.string s, .int .i64 at', .int .u8 (c.toNat : Int)] w fun e w' => e = .returned (.tuple #[.string ⟨#[]⟩, .string ⟨#[]⟩]) ∧ Below w.heap.size w w' := by
  have hlt := c.toNat_lt
  have hlt2 := (s[at']'hat).toNat_lt
  have hat2 : (at' : Int) < (s.size : Int) := by omega
  have hat3 : at' ≤ s.size := by omega
  have hat4 : (at' : Int) + 1 ≤ (s.size : Int) := by omega
  have hat5 : at' + 1 ≤ s.size := by omega
  have hA1 := eq_u8 hA
  have hk2 := fun (W : World) (n : Nat) => quiet_of_left (class_val (s[at']'hat) k h2 (W.drewN n))
  have hi2 : (at' : Int) + 1 < (s.size : Int) := by omega
  have hlt3 := (s[at' + 1]'hi).toNat_lt
  have hB1 := neq_u8 hB
  have hB2 := beq_no hk3
  have hk3 := fun (W : World) (n : Nat) => quiet_of_left (class_val (s[at' + 1]'hi) k3 h3 (W.drewN n))
  clear hB
  clear hA
  go_enter Tryd.func23, Tryd.ntmps23
  go_wp2
  go_quiet (fail)
  have hb1 : Hid (Below w.heap.size w (w.drewN nq)) := Lib.hid (below_drewN (Below.refl _ w) nq)
  clear hA1
  generalize (w.drewN nq) = w1 at hb1 ⊢
  clear nq
  go_wp2
  have hws : IntKind.i64.wrap ((at' : Int) + 1) = (at' : Int) + 1 := IntWalk.i64_in _ (by omega)
  have hws0 : (0 : Int) ≤ (at' : Int) + 1 := by omega
  have hwt : ((at' : Int) + 1).toNat = at' + 1 := by omega
  go_quiet ((go_at_call 27; first | with_reducible exact hk2 _ _ | with_reducible exact hk3 _ _))
  clear hws
  go_wp2
  go_ret2
  exact ⟨rfl, below_drewN hb1.out _⟩
set_option maxRecDepth 100000 in
set_option maxHeartbeats 1000000 in
theorem slip_31 (s : ByteArray) (hs : s.size ≤ 1000000000000000) (at' : Nat) (hat : at' < s.size) (c : UInt8) (w : World)
    (hA : c ≠ s[at']'hat) (kc k : Int) (h1 : Hid (Chk.cls c = kc)) (h2 : Hid (Chk.cls (s[at']'hat) = k)) (hk : kc ≠ k) (hi : at' + 1 < s.size) (hB : s[at']'hat ≠ s[at' + 1]'hi) (h3 : Hid (Chk.cls (s[at' + 1]'hi) = k)) :
    Calls Tryd.prog 23 #[.string s, .int .i64 at', .int .u8 (c.toNat : Int)] w fun e w' => e = .returned (.tuple #[.string ⟨#[]⟩, .string (twoStr s at' (s[at' + 1]'hi) (s[at']'hat))]) ∧ Below w.heap.size w w' := by
  have hlt := c.toNat_lt
  have hlt2 := (s[at']'hat).toNat_lt
  have hat2 : (at' : Int) < (s.size : Int) := by omega
  have hat3 : at' ≤ s.size := by omega
  have hat4 : (at' : Int) + 1 ≤ (s.size : Int) := by omega
  have hat5 : at' + 1 ≤ s.size := by omega
  have hA1 := neq_u8 hA
  have hA2 := beq_no hk
  have hk1 := fun (W : World) (n : Nat) => quiet_of_left (class_val c kc h1 (W.drewN n))
  have hk2 := fun (W : World) (n : Nat) => quiet_of_left (class_val (s[at']'hat) k h2 (W.drewN n))
  have hi2 : (at' : Int) + 1 < (s.size : Int) := by omega
  have hlt3 := (s[at' + 1]'hi).toNat_lt
  have hB1 := neq_u8 hB
  have hk3 := fun (W : World) (n : Nat) => quiet_of_left (class_val (s[at' + 1]'hi) k h3 (W.drewN n))
  have hi5 : at' + 2 ≤ s.size := by omega
  have hi6 : (at' : Int) + 2 ≤ (s.size : Int) := by omega
  clear hB
  clear hA
  go_enter Tryd.func23, Tryd.ntmps23
  go_wp2
  go_quiet ((go_at_call 27; first | with_reducible exact hk1 _ _ | with_reducible exact hk2 _ _))
  have hb1 : Hid (Below w.heap.size w (w.drewN nq)) := Lib.hid (below_drewN (Below.refl _ w) nq)
  clear hA1
  generalize (w.drewN nq) = w1 at hb1 ⊢
  clear nq
  have hcv2 := fun n : Nat => conv2_new w1 n (s[at' + 1]'hi) (s[at']'hat)
  go_wp2
  have hws : IntKind.i64.wrap ((at' : Int) + 1) = (at' : Int) + 1 := IntWalk.i64_in _ (by omega)
  have hws0 : (0 : Int) ≤ (at' : Int) + 1 := by omega
  have hwt : ((at' : Int) + 1).toNat = at' + 1 := by omega
  go_quiet ((go_at_call 27; first | with_reducible exact hk2 _ _ | with_reducible exact hk3 _ _))
  clear hws
  go_wp2
  go_region
  go_wp2
  go_ret2
  exact ⟨rfl, (below_drewN hb1.out (nq + 1)).alloc (show w.heap.size ≤ w1.heap.size from hb1.out.size) _⟩
set_option maxRecDepth 100000 in
set_option maxHeartbeats 1000000 in
theorem slip_32 (s : ByteArray) (hs : s.size ≤ 1000000000000000) (at' : Nat) (hat : at' < s.size) (c : UInt8) (w : World)
    (hA : c ≠ s[at']'hat) (kc k : Int) (h1 : Hid (Chk.cls c = kc)) (h2 : Hid (Chk.cls (s[at']'hat) = k)) (hk : kc ≠ k) (hi : s.size ≤ at' + 1) :
    Calls Tryd.prog 23 #[.string s, .int .i64 at', .int .u8 (c.toNat : Int)] w fun e w' => e = .returned (.tuple #[.string ⟨#[]⟩, .string ⟨#[]⟩]) ∧ Below w.heap.size w w' := by
  have hlt := c.toNat_lt
  have hlt2 := (s[at']'hat).toNat_lt
  have hat2 : (at' : Int) < (s.size : Int) := by omega
  have hat3 : at' ≤ s.size := by omega
  have hat4 : (at' : Int) + 1 ≤ (s.size : Int) := by omega
  have hat5 : at' + 1 ≤ s.size := by omega
  have hA1 := neq_u8 hA
  have hA2 := beq_no hk
  have hk1 := fun (W : World) (n : Nat) => quiet_of_left (class_val c kc h1 (W.drewN n))
  have hk2 := fun (W : World) (n : Nat) => quiet_of_left (class_val (s[at']'hat) k h2 (W.drewN n))
  have hi2 : decide ((at' : Int) + 1 < (s.size : Int)) = false := decide_eq_false (by omega)
  clear hi
  clear hA
  go_enter Tryd.func23, Tryd.ntmps23
  go_wp2
  go_quiet ((go_at_call 27; first | with_reducible exact hk1 _ _ | with_reducible exact hk2 _ _))
  have hb1 : Hid (Below w.heap.size w (w.drewN nq)) := Lib.hid (below_drewN (Below.refl _ w) nq)
  clear hA1
  generalize (w.drewN nq) = w1 at hb1 ⊢
  clear nq
  go_wp2
  have hws : IntKind.i64.wrap ((at' : Int) + 1) = (at' : Int) + 1 := IntWalk.i64_in _ (by omega)
  have hws0 : (0 : Int) ≤ (at' : Int) + 1 := by omega
  have hwt : ((at' : Int) + 1).toNat = at' + 1 := by omega
  go_quiet (fail)
  clear hws
  go_wp2
  go_ret2
  exact ⟨rfl, below_drewN hb1.out _⟩
set_option maxRecDepth 100000 in
set_option maxHeartbeats 1000000 in
theorem slip_33 (s : ByteArray) (hs : s.size ≤ 1000000000000000) (at' : Nat) (hat : at' < s.size) (c : UInt8) (w : World)
    (hA : c ≠ s[at']'hat) (kc k : Int) (h1 : Hid (Chk.cls c = kc)) (h2 : Hid (Chk.cls (s[at']'hat) = k)) (hk : kc ≠ k) (hi : at' + 1 < s.size) (hB : s[at']'hat = s[at' + 1]'hi) :
    Calls Tryd.prog 23 #[.string s, .int .i64 at', .int .u8 (c.toNat : Int)] w fun e w' => e = .returned (.tuple #[.string ⟨#[]⟩, .string ⟨#[]⟩]) ∧ Below w.heap.size w w' := by
  have hlt := c.toNat_lt
  have hlt2 := (s[at']'hat).toNat_lt
  have hat2 : (at' : Int) < (s.size : Int) := by omega
  have hat3 : at' ≤ s.size := by omega
  have hat4 : (at' : Int) + 1 ≤ (s.size : Int) := by omega
  have hat5 : at' + 1 ≤ s.size := by omega
  have hA1 := neq_u8 hA
  have hA2 := beq_no hk
  have hk1 := fun (W : World) (n : Nat) => quiet_of_left (class_val c kc h1 (W.drewN n))
  have hk2 := fun (W : World) (n : Nat) => quiet_of_left (class_val (s[at']'hat) k h2 (W.drewN n))
  have hi2 : (at' : Int) + 1 < (s.size : Int) := by omega
  have hlt3 := (s[at' + 1]'hi).toNat_lt
  have hB1 := eq_u8 hB
  clear hB
  clear hA
  go_enter Tryd.func23, Tryd.ntmps23
  go_wp2
  go_quiet ((go_at_call 27; first | with_reducible exact hk1 _ _ | with_reducible exact hk2 _ _))
  have hb1 : Hid (Below w.heap.size w (w.drewN nq)) := Lib.hid (below_drewN (Below.refl _ w) nq)
  clear hA1
  generalize (w.drewN nq) = w1 at hb1 ⊢
  clear nq
  go_wp2
  have hws : IntKind.i64.wrap ((at' : Int) + 1) = (at' : Int) + 1 := IntWalk.i64_in _ (by omega)
  have hws0 : (0 : Int) ≤ (at' : Int) + 1 := by omega
  have hwt : ((at' : Int) + 1).toNat = at' + 1 := by omega
  go_quiet (fail)
  clear hws
  go_wp2
  go_ret2
  exact ⟨rfl, below_drewN hb1.out _⟩
set_option maxRecDepth 100000 in
set_option maxHeartbeats 1000000 in
theorem slip_34 (s : ByteArray) (hs : s.size ≤ 1000000000000000) (at' : Nat) (hat : at' < s.size) (c : UInt8) (w : World)
    (hA : c ≠ s[at']'hat) (kc k : Int) (h1 : Hid (Chk.cls c = kc)) (h2 : Hid (Chk.cls (s[at']'hat) = k)) (hk : kc ≠ k) (hi : at' + 1 < s.size) (hB : s[at']'hat ≠ s[at' + 1]'hi) (k3 : Int) (h3 : Hid (Chk.cls (s[at' + 1]'hi) = k3)) (hk3 : k ≠ k3) :
    Calls Tryd.prog 23 #[.string s, .int .i64 at', .int .u8 (c.toNat : Int)] w fun e w' => e = .returned (.tuple #[.string ⟨#[]⟩, .string ⟨#[]⟩]) ∧ Below w.heap.size w w' := by
  have hlt := c.toNat_lt
  have hlt2 := (s[at']'hat).toNat_lt
  have hat2 : (at' : Int) < (s.size : Int) := by omega
  have hat3 : at' ≤ s.size := by omega
  have hat4 : (at' : Int) + 1 ≤ (s.size : Int) := by omega
  have hat5 : at' + 1 ≤ s.size := by omega
  have hA1 := neq_u8 hA
  have hA2 := beq_no hk
  have hk1 := fun (W : World) (n : Nat) => quiet_of_left (class_val c kc h1 (W.drewN n))
  have hk2 := fun (W : World) (n : Nat) => quiet_of_left (class_val (s[at']'hat) k h2 (W.drewN n))
  have hi2 : (at' : Int) + 1 < (s.size : Int) := by omega
  have hlt3 := (s[at' + 1]'hi).toNat_lt
  have hB1 := neq_u8 hB
  have hB2 := beq_no hk3
  have hk3 := fun (W : World) (n : Nat) => quiet_of_left (class_val (s[at' + 1]'hi) k3 h3 (W.drewN n))
  clear hB
  clear hA
  go_enter Tryd.func23, Tryd.ntmps23
  go_wp2
  go_quiet ((go_at_call 27; first | with_reducible exact hk1 _ _ | with_reducible exact hk2 _ _))
  have hb1 : Hid (Below w.heap.size w (w.drewN nq)) := Lib.hid (below_drewN (Below.refl _ w) nq)
  clear hA1
  generalize (w.drewN nq) = w1 at hb1 ⊢
  clear nq
  go_wp2
  have hws : IntKind.i64.wrap ((at' : Int) + 1) = (at' : Int) + 1 := IntWalk.i64_in _ (by omega)
  have hws0 : (0 : Int) ≤ (at' : Int) + 1 := by omega
  have hwt : ((at' : Int) + 1).toNat = at' + 1 := by omega
  go_quiet ((go_at_call 27; first | with_reducible exact hk2 _ _ | with_reducible exact hk3 _ _))
  clear hws
  go_wp2
  go_ret2
  exact ⟨rfl, below_drewN hb1.out _⟩
end Go.Proofs.YtnigkjpcccccbaaDoor
