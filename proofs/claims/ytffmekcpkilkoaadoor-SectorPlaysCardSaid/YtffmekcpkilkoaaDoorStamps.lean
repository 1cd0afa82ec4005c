/-
  Walks over statements of layer 7: stamps.
-/
import Derived.Test.YtffmekcpkilkoaaDoorLaws
import Derived.Deep.LoopGhost
namespace Go.Proofs.YtffmekcpkilkoaaDoor
open Go.RowKit

theorem log_either (v i : Int) (B : Nat) (A : Nat → Addr) (w : World) (hG : Glob B w A) :
    (logOk v i → Calls Tryd.prog 12 #[.int .i64 v, .int .i64 i] w fun e w' => e = .returned (.tuple #[.int .u64 (v * 1048576 + i + 1), .nilIface]) ∧ ∃ n, w' = w.drewN n) ∧
    (¬ logOk v i → Calls Tryd.prog 12 #[.int .i64 v, .int .i64 i] w fun e w' => e = .returned (.tuple #[.int .u64 0, .iface 70 (.pointer (some (A 5)))]) ∧ ∃ n, w' = w.drewN n) :=
  ⟨fun h => (log_yes v i h w).mono fun _ _ ⟨a, b⟩ => ⟨a, 0, b.symm⟩, fun h => log_no v i h _ w hG.eRange⟩
theorem num_range (B : Nat) (A : Nat → Addr) (w : World) (h : Glob B w A) :
    Calls Tryd.prog 10 #[.iface 70 (.pointer (some (A 5)))] w fun e w' => e = .returned (.int .i64 6) ∧ Below w.heap.size w w' := num_of 5 6 (by omega) (by omega) B A w (h.errs trivial)
set_option maxRecDepth 100000 in
set_option maxHeartbeats 4000000 in
theorem stamps_n (v i x j : Int) (B : Nat) (A : Nat → Addr) (w : World) (hG : Glob B w A) (h1 : ¬ logOk v i) (h2 : ¬ logOk x j) :
    Calls Tryd.prog 4 #[.int .i64 v, .int .i64 i, .int .i64 x, .int .i64 j] w fun e w' => e = .returned (.bool true) ∧ Below w.heap.size w w' := by
  have hnn : ∀ W : World, (binOp .eql 25 .nilIface .nilIface).run Tryd.prog W = .ok (.bool true) W := fun W => by kernel_rfl
  have hnn2 : ∀ W : World, (binOp .neq 25 .nilIface .nilIface).run Tryd.prog W = .ok (.bool false) W := fun W => by kernel_rfl
  have hn5 : ∀ W : World, (binOp .neq 25 (.iface 70 (.pointer (some (A 5)))) .nilIface).run Tryd.prog W = .ok (.bool true) W := fun W => by kernel_rfl
  have hn6 : ∀ W : World, (binOp .eql 25 (.iface 70 (.pointer (some (A 5)))) .nilIface).run Tryd.prog W = .ok (.bool false) W := fun W => by kernel_rfl
  have HG := Lib.hid hG
  have H1 := hide fun (W : World) (hW : Glob B W A) => (log_either v i B A W hW).2 h1
  have H2 := hide fun (W : World) (hW : Glob B W A) => (log_either x j B A W hW).2 h2
  have K1 := Lib.hid h1
  have K2 := Lib.hid h2
  clear hG h1 h2
  go_enter Tryd.func4, Tryd.ntmps4
  go_wp2_with fail
  refine (fixed_any B A _ HG.out).mono ?_
  rintro e w1 ⟨rfl, hb1⟩
  have HG1 := Lib.hid (HG.out.on hb1)
  have HB1 := Lib.hid hb1
  clear hb1
  go_wp2_with fail
  refine (unhide H1 _ HG1.out).mono ?_
  rintro e w2 ⟨rfl, k, rfl⟩
  have HG2 := Lib.hid (HG1.out.drewN k)
  have HB2 := Lib.hid (bdn HB1.out k)
  generalize w1.drewN k = w2 at HG2 HB2 ⊢
  go_wp2_with fail
  refine (unhide H2 _ HG2.out).mono ?_
  rintro e w3 ⟨rfl, k2, rfl⟩
  have HG3 := Lib.hid (HG2.out.drewN k2)
  have HB3 := Lib.hid (bdn HB2.out k2)
  generalize w2.drewN k2 = w3 at HG3 HB3 ⊢
  clear H1 H2 HG HG1 HG2 HB1 HB2
  go_wp2_with fail
  go_loopw [33] (fun i wr => ∃ k : Nat, k ≤ 2 ∧ i = .int .i64 k ∧ Hid (Below (w3.heap.size + 1) (w3.alloc (.cells #[.iface 70 (.pointer (some (A 5))), .iface 70 (.pointer (some (A 5)))] 25)) wr)) (fun i _ => 2 - (intOf i).toNat)
  case atStart => exact ⟨0, by omega, rfl, Lib.hid (Below.refl _ _)⟩
  case round =>
    obtain ⟨k, hk, rfl, HBw⟩ := hrel
    have hc0 : wr.cell? ⟨w3.heap.size, 0, none⟩ = some (.iface 70 (.pointer (some (A 5)))) := by
      rw [HBw.out.cell (p := ⟨w3.heap.size, 0, none⟩) (by simp), World.cell?_alloc_at _ _ _ _ rfl]; rfl
    have hc1 : wr.cell? ⟨w3.heap.size, 1, none⟩ = some (.iface 70 (.pointer (some (A 5)))) := by
      rw [HBw.out.cell (p := ⟨w3.heap.size, 1, none⟩) (by simp), World.cell?_alloc_at _ _ _ _ rfl]; rfl
    rcases (by omega : k = 0 ∨ k = 1 ∨ k = 2) with rfl | rfl | rfl
    all_goals clear hk
    · skip
      · go_wp2_with fail
        refine (num_range B A _ (HG3.out.below (((Below.refl _ w3).alloc (Nat.le_refl _) _).trans (HBw.out.mono (by simp))) HG3.out.size)).mono ?_
        rintro e w5 ⟨rfl, hb5⟩
        have HB5 := Lib.hid (HBw.out.trans (hb5.mono (by have := HBw.out.size; simpa using this)))
        clear hb5 HBw
        go_wp2_with fail
        go_roundw
        case rel => exact ⟨1, by omega, by go_num, HB5⟩
        case measure => simp [intOf]
    · skip
      · go_wp2_with fail
        refine (num_range B A _ (HG3.out.below (((Below.refl _ w3).alloc (Nat.le_refl _) _).trans (HBw.out.mono (by simp))) HG3.out.size)).mono ?_
        rintro e w5 ⟨rfl, hb5⟩
        have HB5 := Lib.hid (HBw.out.trans (hb5.mono (by have := HBw.out.size; simpa using this)))
        clear hb5 HBw
        go_wp2_with fail
        go_roundw
        case rel => exact ⟨2, by omega, by go_num, HB5⟩
        case measure => simp [intOf]
    · skip
      have HE := Lib.hid (HB3.out.trans ((((Below.refl _ w3).alloc (Nat.le_refl _) _).trans (HBw.out.mono (by simp))).mono HB3.out.size))
      clear hc0 hc1 HBw HB3 HG3
      rcases log_cases K1.out with h1 | ⟨h1, h2⟩ | ⟨h1, h2, h3⟩ | ⟨h1, h2, h3, h4⟩
      all_goals
        clear K1 K2
        go_wp2_with fail
        go_ret
        exact ⟨rfl, HE.out⟩
set_option maxRecDepth 100000 in
set_option maxHeartbeats 4000000 in
theorem stamps_ny (v i x j : Int) (B : Nat) (A : Nat → Addr) (w : World) (hG : Glob B w A) (h1 : ¬ logOk v i) (h2 : logOk x j) :
    Calls Tryd.prog 4 #[.int .i64 v, .int .i64 i, .int .i64 x, .int .i64 j] w fun e w' => e = .returned (.bool true) ∧ Below w.heap.size w w' := by
  have hnn : ∀ W : World, (binOp .eql 25 .nilIface .nilIface).run Tryd.prog W = .ok (.bool true) W := fun W => by kernel_rfl
  have hnn2 : ∀ W : World, (binOp .neq 25 .nilIface .nilIface).run Tryd.prog W = .ok (.bool false) W := fun W => by kernel_rfl
  have hn5 : ∀ W : World, (binOp .neq 25 (.iface 70 (.pointer (some (A 5)))) .nilIface).run Tryd.prog W = .ok (.bool true) W := fun W => by kernel_rfl
  have hn6 : ∀ W : World, (binOp .eql 25 (.iface 70 (.pointer (some (A 5)))) .nilIface).run Tryd.prog W = .ok (.bool false) W := fun W => by kernel_rfl
  have HG := Lib.hid hG
  have H1 := hide fun (W : World) (hW : Glob B W A) => (log_either v i B A W hW).2 h1
  have H2 := hide fun (W : World) (hW : Glob B W A) => (log_either x j B A W hW).1 h2
  have K1 := Lib.hid h1
  have K2 := Lib.hid h2
  clear hG h1 h2
  go_enter Tryd.func4, Tryd.ntmps4
  go_wp2_with fail
  refine (fixed_any B A _ HG.out).mono ?_
  rintro e w1 ⟨rfl, hb1⟩
  have HG1 := Lib.hid (HG.out.on hb1)
  have HB1 := Lib.hid hb1
  clear hb1
  go_wp2_with fail
  refine (unhide H1 _ HG1.out).mono ?_
  rintro e w2 ⟨rfl, k, rfl⟩
  have HG2 := Lib.hid (HG1.out.drewN k)
  have HB2 := Lib.hid (bdn HB1.out k)
  generalize w1.drewN k = w2 at HG2 HB2 ⊢
  go_wp2_with fail
  refine (unhide H2 _ HG2.out).mono ?_
  rintro e w3 ⟨rfl, k2, rfl⟩
  have HG3 := Lib.hid (HG2.out.drewN k2)
  have HB3 := Lib.hid (bdn HB2.out k2)
  generalize w2.drewN k2 = w3 at HG3 HB3 ⊢
  clear H1 H2 HG HG1 HG2 HB1 HB2
  go_wp2_with fail
  go_loopw [33] (fun i wr => ∃ k : Nat, k ≤ 2 ∧ i = .int .i64 k ∧ Hid (Below (w3.heap.size + 1) (w3.alloc (.cells #[.iface 70 (.pointer (some (A 5))), .nilIface] 25)) wr)) (fun i _ => 2 - (intOf i).toNat)
  case atStart => exact ⟨0, by omega, rfl, Lib.hid (Below.refl _ _)⟩
  case round =>
    obtain ⟨k, hk, rfl, HBw⟩ := hrel
    have hc0 : wr.cell? ⟨w3.heap.size, 0, none⟩ = some (.iface 70 (.pointer (some (A 5)))) := by
      rw [HBw.out.cell (p := ⟨w3.heap.size, 0, none⟩) (by simp), World.cell?_alloc_at _ _ _ _ rfl]; rfl
    have hc1 : wr.cell? ⟨w3.heap.size, 1, none⟩ = some (.nilIface) := by
      rw [HBw.out.cell (p := ⟨w3.heap.size, 1, none⟩) (by simp), World.cell?_alloc_at _ _ _ _ rfl]; rfl
    rcases (by omega : k = 0 ∨ k = 1 ∨ k = 2) with rfl | rfl | rfl
    all_goals clear hk
    · skip
      · go_wp2_with fail
        refine (num_range B A _ (HG3.out.below (((Below.refl _ w3).alloc (Nat.le_refl _) _).trans (HBw.out.mono (by simp))) HG3.out.size)).mono ?_
        rintro e w5 ⟨rfl, hb5⟩
        have HB5 := Lib.hid (HBw.out.trans (hb5.mono (by have := HBw.out.size; simpa using this)))
        clear hb5 HBw
        go_wp2_with fail
        go_roundw
        case rel => exact ⟨1, by omega, by go_num, HB5⟩
        case measure => simp [intOf]
    · skip
      · go_wp2_with fail
        go_roundw
        case rel => exact ⟨2, by omega, by go_num, HBw⟩
        case measure => simp [intOf]
    · skip
      have HE := Lib.hid (HB3.out.trans ((((Below.refl _ w3).alloc (Nat.le_refl _) _).trans (HBw.out.mono (by simp))).mono HB3.out.size))
      clear hc0 hc1 HBw HB3 HG3
      rcases log_cases K1.out with h1 | ⟨h1, h2⟩ | ⟨h1, h2, h3⟩ | ⟨h1, h2, h3, h4⟩
      all_goals
        clear K1 K2
        go_wp2_with fail
        go_ret
        exact ⟨rfl, HE.out⟩
set_option maxRecDepth 100000 in
set_option maxHeartbeats 4000000 in
theorem stamps_yn (v i x j : Int) (B : Nat) (A : Nat → Addr) (w : World) (hG : Glob B w A) (h1 : logOk v i) (h2 : ¬ logOk x j) :
    Calls Tryd.prog 4 #[.int .i64 v, .int .i64 i, .int .i64 x, .int .i64 j] w fun e w' => e = .returned (.bool true) ∧ Below w.heap.size w w' := by
  have hnn : ∀ W : World, (binOp .eql 25 .nilIface .nilIface).run Tryd.prog W = .ok (.bool true) W := fun W => by kernel_rfl
  have hnn2 : ∀ W : World, (binOp .neq 25 .nilIface .nilIface).run Tryd.prog W = .ok (.bool false) W := fun W => by kernel_rfl
  have hn5 : ∀ W : World, (binOp .neq 25 (.iface 70 (.pointer (some (A 5)))) .nilIface).run Tryd.prog W = .ok (.bool true) W := fun W => by kernel_rfl
  have hn6 : ∀ W : World, (binOp .eql 25 (.iface 70 (.pointer (some (A 5)))) .nilIface).run Tryd.prog W = .ok (.bool false) W := fun W => by kernel_rfl
  have HG := Lib.hid hG
  have H1 := hide fun (W : World) (hW : Glob B W A) => (log_either v i B A W hW).1 h1
  have H2 := hide fun (W : World) (hW : Glob B W A) => (log_either x j B A W hW).2 h2
  have K1 := Lib.hid h1
  have K2 := Lib.hid h2
  clear hG h1 h2
  go_enter Tryd.func4, Tryd.ntmps4
  go_wp2_with fail
  refine (fixed_any B A _ HG.out).mono ?_
  rintro e w1 ⟨rfl, hb1⟩
  have HG1 := Lib.hid (HG.out.on hb1)
  have HB1 := Lib.hid hb1
  clear hb1
  go_wp2_with fail
  refine (unhide H1 _ HG1.out).mono ?_
  rintro e w2 ⟨rfl, k, rfl⟩
  have HG2 := Lib.hid (HG1.out.drewN k)
  have HB2 := Lib.hid (bdn HB1.out k)
  generalize w1.drewN k = w2 at HG2 HB2 ⊢
  go_wp2_with fail
  refine (unhide H2 _ HG2.out).mono ?_
  rintro e w3 ⟨rfl, k2, rfl⟩
  have HG3 := Lib.hid (HG2.out.drewN k2)
  have HB3 := Lib.hid (bdn HB2.out k2)
  generalize w2.drewN k2 = w3 at HG3 HB3 ⊢
  clear H1 H2 HG HG1 HG2 HB1 HB2
  go_wp2_with fail
  go_loopw [33] (fun i wr => ∃ k : Nat, k ≤ 2 ∧ i = .int .i64 k ∧ Hid (Below (w3.heap.size + 1) (w3.alloc (.cells #[.nilIface, .iface 70 (.pointer (some (A 5)))] 25)) wr)) (fun i _ => 2 - (intOf i).toNat)
  case atStart => exact ⟨0, by omega, rfl, Lib.hid (Below.refl _ _)⟩
  case round =>
    obtain ⟨k, hk, rfl, HBw⟩ := hrel
    have hc0 : wr.cell? ⟨w3.heap.size, 0, none⟩ = some (.nilIface) := by
      rw [HBw.out.cell (p := ⟨w3.heap.size, 0, none⟩) (by simp), World.cell?_alloc_at _ _ _ _ rfl]; rfl
    have hc1 : wr.cell? ⟨w3.heap.size, 1, none⟩ = some (.iface 70 (.pointer (some (A 5)))) := by
      rw [HBw.out.cell (p := ⟨w3.heap.size, 1, none⟩) (by simp), World.cell?_alloc_at _ _ _ _ rfl]; rfl
    rcases (by omega : k = 0 ∨ k = 1 ∨ k = 2) with rfl | rfl | rfl
    all_goals clear hk
    · skip
      · go_wp2_with fail
        go_roundw
        case rel => exact ⟨1, by omega, by go_num, HBw⟩
        case measure => simp [intOf]
    · skip
      · go_wp2_with fail
        refine (num_range B A _ (HG3.out.below (((Below.refl _ w3).alloc (Nat.le_refl _) _).trans (HBw.out.mono (by simp))) HG3.out.size)).mono ?_
        rintro e w5 ⟨rfl, hb5⟩
        have HB5 := Lib.hid (HBw.out.trans (hb5.mono (by have := HBw.out.size; simpa using this)))
        clear hb5 HBw
        go_wp2_with fail
        go_roundw
        case rel => exact ⟨2, by omega, by go_num, HB5⟩
        case measure => simp [intOf]
    · skip
      have HE := Lib.hid (HB3.out.trans ((((Below.refl _ w3).alloc (Nat.le_refl _) _).trans (HBw.out.mono (by simp))).mono HB3.out.size))
      clear hc0 hc1 HBw HB3 HG3
      obtain ⟨h1, h2, h3, h4⟩ := K1.out
      clear K1 K2
      go_wp2_with fail
      go_ret
      exact ⟨rfl, HE.out⟩
set_option maxRecDepth 100000 in
set_option maxHeartbeats 4000000 in
theorem stamps_yy (v i x j : Int) (B : Nat) (A : Nat → Addr) (w : World) (hG : Glob B w A) (h1 : logOk v i) (h2 : logOk x j) :
    Calls Tryd.prog 4 #[.int .i64 v, .int .i64 i, .int .i64 x, .int .i64 j] w fun e w' => e = .returned (.bool true) ∧ Below w.heap.size w w' := by
  have hnn : ∀ W : World, (binOp .eql 25 .nilIface .nilIface).run Tryd.prog W = .ok (.bool true) W := fun W => by kernel_rfl
  have hnn2 : ∀ W : World, (binOp .neq 25 .nilIface .nilIface).run Tryd.prog W = .ok (.bool false) W := fun W => by kernel_rfl
  have hn5 : ∀ W : World, (binOp .neq 25 (.iface 70 (.pointer (some (A 5)))) .nilIface).run Tryd.prog W = .ok (.bool true) W := fun W => by kernel_rfl
  have hn6 : ∀ W : World, (binOp .eql 25 (.iface 70 (.pointer (some (A 5)))) .nilIface).run Tryd.prog W = .ok (.bool false) W := fun W => by kernel_rfl
  have HG := Lib.hid hG
  have H1 := hide fun (W : World) (hW : Glob B W A) => (log_either v i B A W hW).1 h1
  have H2 := hide fun (W : World) (hW : Glob B W A) => (log_either x j B A W hW).1 h2
  have K1 := Lib.hid h1
  have K2 := Lib.hid h2
  clear hG h1 h2
  go_enter Tryd.func4, Tryd.ntmps4
  go_wp2_with fail
  refine (fixed_any B A _ HG.out).mono ?_
  rintro e w1 ⟨rfl, hb1⟩
  have HG1 := Lib.hid (HG.out.on hb1)
  have HB1 := Lib.hid hb1
  clear hb1
  go_wp2_with fail
  refine (unhide H1 _ HG1.out).mono ?_
  rintro e w2 ⟨rfl, k, rfl⟩
  have HG2 := Lib.hid (HG1.out.drewN k)
  have HB2 := Lib.hid (bdn HB1.out k)
  generalize w1.drewN k = w2 at HG2 HB2 ⊢
  go_wp2_with fail
  refine (unhide H2 _ HG2.out).mono ?_
  rintro e w3 ⟨rfl, k2, rfl⟩
  have HG3 := Lib.hid (HG2.out.drewN k2)
  have HB3 := Lib.hid (bdn HB2.out k2)
  generalize w2.drewN k2 = w3 at HG3 HB3 ⊢
  clear H1 H2 HG HG1 HG2 HB1 HB2
  go_wp2_with fail
  go_loopw [33] (fun i wr => ∃ k : Nat, k ≤ 2 ∧ i = .int .i64 k ∧ Hid (Below (w3.heap.size + 1) (w3.alloc (.cells #[.nilIface, .nilIface] 25)) wr)) (fun i _ => 2 - (intOf i).toNat)
  case atStart => exact ⟨0, by omega, rfl, Lib.hid (Below.refl _ _)⟩
  case round =>
    obtain ⟨k, hk, rfl, HBw⟩ := hrel
    have hc0 : wr.cell? ⟨w3.heap.size, 0, none⟩ = some (.nilIface) := by
      rw [HBw.out.cell (p := ⟨w3.heap.size, 0, none⟩) (by simp), World.cell?_alloc_at _ _ _ _ rfl]; rfl
    have hc1 : wr.cell? ⟨w3.heap.size, 1, none⟩ = some (.nilIface) := by
      rw [HBw.out.cell (p := ⟨w3.heap.size, 1, none⟩) (by simp), World.cell?_alloc_at _ _ _ _ rfl]; rfl
    rcases (by omega : k = 0 ∨ k = 1 ∨ k = 2) with rfl | rfl | rfl
    all_goals clear hk
    · skip
      · go_wp2_with fail
        go_roundw
        case rel => exact ⟨1, by omega, by go_num, HBw⟩
        case measure => simp [intOf]
    · skip
      · go_wp2_with fail
        go_roundw
        case rel => exact ⟨2, by omega, by go_num, HBw⟩
        case measure => simp [intOf]
    · skip
      have HE := Lib.hid (HB3.out.trans ((((Below.refl _ w3).alloc (Nat.le_refl _) _).trans (HBw.out.mono (by simp))).mono HB3.out.size))
      clear hc0 hc1 HBw HB3 HG3
      obtain ⟨h1, h2, h3, h4⟩ := K1.out
      obtain ⟨h5, h6, h7, h8⟩ := K2.out
      clear K1 K2
      have f6 : 0 < v * 1048576 + i + 1 := by omega
      have f7 : 0 < x * 1048576 + j + 1 := by omega
      rcases Int.lt_trichotomy v x with hv | hv | hv
      · have f1 : ((v * 1048576 + i + 1 : Int) == x * 1048576 + j + 1) = false := beq_eq_false_iff_ne.2 (by omega)
        have f2 : (v == x) = false := beq_eq_false_iff_ne.2 (by omega)
        have f4 : v * 1048576 + i + 1 < x * 1048576 + j + 1 := by omega
        have f5 : (v != x) = true := bne_iff_ne.2 (by omega)
        clear h5 h6 h7 h8
        go_wp2_with fail
        go_ret
        exact ⟨rfl, HE.out⟩
      · subst hv
        have f2 : (v == v) = true := beq_iff_eq.2 rfl
        have f5 : (v != v) = false := by simp
        rcases Int.lt_trichotomy i j with hv | hv | hv
        · have f1 : ((v * 1048576 + i + 1 : Int) == v * 1048576 + j + 1) = false := beq_eq_false_iff_ne.2 (by omega)
          have f3 : (i == j) = false := beq_eq_false_iff_ne.2 (by omega)
          have f4 : v * 1048576 + i + 1 < v * 1048576 + j + 1 := by omega
          clear h5 h6 h7 h8
          go_wp2_with fail
          go_ret
          exact ⟨rfl, HE.out⟩
        · subst hv
          clear h5 h6 h7 h8
          go_wp2_with fail
          go_ret
          exact ⟨rfl, HE.out⟩
        · have f1 : ((v * 1048576 + i + 1 : Int) == v * 1048576 + j + 1) = false := beq_eq_false_iff_ne.2 (by omega)
          have f3 : (i == j) = false := beq_eq_false_iff_ne.2 (by omega)
          have f4 : ¬ v * 1048576 + i + 1 < v * 1048576 + j + 1 := by omega
          have f8 : ¬ i < j := by omega
          clear h5 h6 h7 h8
          go_wp2_with fail
          go_ret
          exact ⟨rfl, HE.out⟩
      · have f1 : ((v * 1048576 + i + 1 : Int) == x * 1048576 + j + 1) = false := beq_eq_false_iff_ne.2 (by omega)
        have f2 : (v == x) = false := beq_eq_false_iff_ne.2 (by omega)
        have f3 : x ≤ v := by omega
        have f5 : (v != x) = true := bne_iff_ne.2 (by omega)
        clear h5 h6 h7 h8
        go_wp2_with fail
        go_ret
        exact ⟨rfl, HE.out⟩
theorem stamps_law (v i x j : Int) (B : Nat) (A : Nat → Addr) (w : World) (hG : Glob B w A) :
    Calls Tryd.prog 4 #[.int .i64 v, .int .i64 i, .int .i64 x, .int .i64 j] w fun e w' => e = .returned (.bool true) ∧ Below w.heap.size w w' := by
  by_cases h1 : logOk v i <;> by_cases h2 : logOk x j
  · exact stamps_yy v i x j B A w hG h1 h2
  · exact stamps_yn v i x j B A w hG h1 h2
  · exact stamps_ny v i x j B A w hG h1 h2
  · exact stamps_n v i x j B A w hG h1 h2
end Go.Proofs.YtffmekcpkilkoaaDoor
