/-
  Walks over statements of layer 7: every call, at all arguments.
-/
import Derived.Test.YtffmekcpkilkoaaDoorRefOpen
import Derived.Test.YtffmekcpkilkoaaDoorStamps
namespace Go.Proofs.YtffmekcpkilkoaaDoor
open Go.RowKit

/-- An error and its number. -/
def Numbered (B : Nat) (A : Nat → Addr) (ev : Value) (m : Int) : Prop := ∀ W : World, Glob B W A → Calls Tryd.prog 10 #[ev] W fun e w' => e = .returned (.int .i64 m) ∧ Below W.heap.size W w'
theorem numbered_nil (B : Nat) (A : Nat → Addr) : Numbered B A .nilIface 0 := fun W _ => (num_nil W).mono fun _ _ ⟨a, b⟩ => ⟨a, by rw [← b]; exact Below.refl _ _⟩
theorem numbered_err (B : Nat) (A : Nat → Addr) (k : Nat) (n : Int) (hk : k < 37) (hn : (k : Int) + 1 = n) : Numbered B A (errV A k) n := fun W hW => num_any B A W hW k n hk hn
theorem seal_gen (stamp : Nat) (hs : stamp < 18446744073709551616) (s : ByteArray) (B : Nat) (A : Nat → Addr) : ∃ (T : ByteArray) (ev : Value) (m : Int), Numbered B A ev m ∧
    (∀ W : World, Glob B W A → Calls Tryd.prog 9 #[.int .u64 stamp, .string s] W fun e w' => e = .returned (.tuple #[.string T, ev]) ∧ Below W.heap.size W w') ∧
    (∀ W : World, Calls Tryd.prog 13 #[.int .u64 stamp, .string s] W fun e w' => e = .returned (.tuple #[.string T, .int .i64 m]) ∧ Below W.heap.size W w') := by
  by_cases h0 : stamp = 0
  · subst h0
    exact ⟨_, _, _, numbered_err B A 5 6 (by omega) (by omega), fun W hW => seal_zero s _ W hW.eRange, fun W => sealr_zero s W⟩
  · by_cases hl : s.size ≤ 234
    · exact ⟨_, _, _, numbered_nil B A, fun W hW => seal_ok stamp hs (by omega) s hl B A W hW _ (Lib.hid rfl), fun W => sealr_ok stamp hs (by omega) s hl _ (Lib.hid rfl) W⟩
    · exact ⟨_, _, _, numbered_err B A 2 3 (by omega) (by omega), fun W hW => seal_long stamp (by omega) s (by omega) _ W hW.eLimit, fun W => sealr_long stamp (by omega) s (by omega) W⟩
theorem drew_below {P : Program} {f : FuncId} {args : Array Value} {w : World} {v : Value} (h : Calls P f args w fun e w' => e = .returned v ∧ ∃ k, w' = w.drewN k) : Calls P f args w fun e w' => e = .returned v ∧ Below w.heap.size w w' :=
  h.mono fun _ _ ⟨a, k, b⟩ => ⟨a, by rw [b]; exact bdn (Below.refl _ _) k⟩
theorem same_below {P : Program} {f : FuncId} {args : Array Value} {w : World} {v : Value} (h : Calls P f args w fun e w' => e = .returned v ∧ w = w') : Calls P f args w fun e w' => e = .returned v ∧ Below w.heap.size w w' :=
  h.mono fun _ _ ⟨a, b⟩ => ⟨a, by rw [← b]; exact Below.refl _ _⟩
theorem ends_gen (s : ByteArray) (B : Nat) (A : Nat → Addr) : ∃ (a b : Nat) (ev : Value) (m : Int), Numbered B A ev m ∧
    (∀ W : World, Glob B W A → Calls Tryd.prog 15 #[.string s] W fun e w' => e = .returned (.tuple #[.int .u64 a, .int .u64 b, ev]) ∧ Below W.heap.size W w') ∧
    (∀ W : World, Calls Tryd.prog 16 #[.string s] W fun e w' => e = .returned (.tuple #[.int .u64 a, .int .u64 b, .int .i64 m]) ∧ Below W.heap.size W w') := by
  by_cases h : s.size = 256
  · exact ⟨_, _, _, _, numbered_nil B A, fun W _ => drew_below (ends_yes s _ rfl h W), fun W => drew_below (endsr_yes s _ rfl h W)⟩
  · exact ⟨0, 0, _, _, numbered_err B A 6 7 (by omega) (by omega), fun W hW => drew_below (ends_form s h _ W hW.eForm), fun W => same_below (endsr_form s h W)⟩
theorem log_gen (v i : Int) (B : Nat) (A : Nat → Addr) : ∃ (x : Int) (ev : Value) (m : Int), Numbered B A ev m ∧
    (∀ W : World, Glob B W A → Calls Tryd.prog 12 #[.int .i64 v, .int .i64 i] W fun e w' => e = .returned (.tuple #[.int .u64 x, ev]) ∧ Below W.heap.size W w') ∧
    (∀ W : World, Calls Tryd.prog 17 #[.int .i64 v, .int .i64 i] W fun e w' => e = .returned (.tuple #[.int .u64 x, .int .i64 m]) ∧ Below W.heap.size W w') := by
  by_cases h : logOk v i
  · exact ⟨_, _, _, numbered_nil B A, fun W _ => same_below (log_yes v i h W), fun W => same_below (logr_yes v i h W)⟩
  · exact ⟨0, _, _, numbered_err B A 5 6 (by omega) (by omega), fun W hW => drew_below (log_no v i h _ W hW.eRange), fun W => same_below (logr_no v i h W)⟩
theorem tear_gen (a b : ByteArray) (n : Int) (B : Nat) (A : Nat → Addr) : ∃ (T : ByteArray) (ev : Value) (m : Int), Numbered B A ev m ∧
    (∀ W : World, Glob B W A → Calls Tryd.prog 18 #[.string a, .string b, .int .i64 n] W fun e w' => e = .returned (.tuple #[.string T, ev]) ∧ Below W.heap.size W w') ∧
    (∀ W : World, Calls Tryd.prog 19 #[.string a, .string b, .int .i64 n] W fun e w' => e = .returned (.tuple #[.string T, .int .i64 m]) ∧ Below W.heap.size W w') := by
  by_cases h : a.size ≠ 256 ∨ b.size ≠ 256
  · exact ⟨_, _, _, numbered_err B A 6 7 (by omega) (by omega), fun W hW => drew_below (tear_form a b n h _ W hW.eForm), fun W => same_below (tearr_form a b n h W)⟩
  · have ha : a.size = 256 := Decidable.byContradiction fun e => h (.inl e)
    have hb : b.size = 256 := Decidable.byContradiction fun e => h (.inr e)
    by_cases hr : n < 0 ∨ 256 < n
    · exact ⟨_, _, _, numbered_err B A 5 6 (by omega) (by omega), fun W hW => drew_below (tear_range a b n ha hb hr _ W hW.eRange), fun W => same_below (tearr_range a b n ha hb hr W)⟩
    · obtain ⟨k, rfl⟩ : ∃ k : Nat, n = (k : Int) := ⟨n.toNat, by omega⟩
      exact ⟨_, _, _, numbered_nil B A, fun W _ => drew_below (tear_yes a b k (by rw [ha]; rfl) (by rw [hb]; rfl) (by omega) W), fun W => drew_below (tearr_yes a b k (by rw [ha]; rfl) (by rw [hb]; rfl) (by omega) W)⟩
/-- The calls that came in, cell by cell. -/
def OpAt (w : World) (b o : Nat) (K : Int) (U : Nat) (N M : Int) (S T : ByteArray) : Prop :=
  w.cell? ⟨b, o, none⟩ = some (.int .i64 K) ∧ w.cell? ⟨b, o + 1, none⟩ = some (.int .u64 U) ∧ w.cell? ⟨b, o + 2, none⟩ = some (.int .i64 N) ∧ w.cell? ⟨b, o + 3, none⟩ = some (.int .i64 M) ∧ w.cell? ⟨b, o + 4, none⟩ = some (.string S) ∧ w.cell? ⟨b, o + 5, none⟩ = some (.string T)
def OpsAt (w : World) (b off n : Nat) : Prop := ∀ i, i < n → ∃ (K : Int) (U : Nat) (N M : Int) (S T : ByteArray), U < 18446744073709551616 ∧ OpAt w b (off + i * 6) K U N M S T
theorem OpAt.keep {w w' : World} {b o B : Nat} {K : Int} {U : Nat} {N M : Int} {S T : ByteArray} (h : OpAt w b o K U N M S T) (hb : Below B w w') (hB : b < B) : OpAt w' b o K U N M S T :=
  ⟨(hb.cell (p := ⟨b, o, none⟩) hB).trans h.1, (hb.cell (p := ⟨b, o + 1, none⟩) hB).trans h.2.1, (hb.cell (p := ⟨b, o + 2, none⟩) hB).trans h.2.2.1, (hb.cell (p := ⟨b, o + 3, none⟩) hB).trans h.2.2.2.1, (hb.cell (p := ⟨b, o + 4, none⟩) hB).trans h.2.2.2.2.1, (hb.cell (p := ⟨b, o + 5, none⟩) hB).trans h.2.2.2.2.2⟩
theorem opAt_new (w : World) (t : TypeId) (K : Int) (U : Nat) (N M : Int) (S T : ByteArray) : OpAt (w.alloc (.cells #[.int .i64 K, .int .u64 U, .int .i64 N, .int .i64 M, .string S, .string T] t)) w.heap.size 0 K U N M S T := by
  refine ⟨?_, ?_, ?_, ?_, ?_, ?_⟩ <;> (rw [World.cell?_alloc_at _ _ _ _ rfl]; rfl)
set_option maxRecDepth 100000 in
set_option maxHeartbeats 8000000 in
theorem plays_some (b off n cap : Nat) (hn : n ≤ 9223372036854775807) (B : Nat) (A : Nat → Addr) (w : World) (hb : b < w.heap.size) (hG : Glob B w A) (hA : OpsAt w b off n) :
    Calls Tryd.prog 5 #[.slice (some ⟨b, off, none⟩) n cap] w fun e w' => e = .returned (.bool true) ∧ Below w.heap.size w w' := by
  have hnn : ∀ W : World, (binOp .eql 25 .nilIface .nilIface).run Tryd.prog W = .ok (.bool true) W := fun W => by kernel_rfl
  have hGw := hide fun (W : World) (h : Below w.heap.size w W) => hG.on h
  have HG0 := Lib.hid hG
  have HB0 : Hid (Below w.heap.size w w) := Lib.hid (Below.refl _ _)
  clear hG
  have HA := Lib.hid hA
  have HBW := Lib.hid hb
  clear hA hb
  go_enter Tryd.func5, Tryd.ntmps5
  go_wp2_with fail
  refine (fixed_any B A _ HG0.out).mono ?_
  rintro e w1 ⟨rfl, hb⟩
  have HG1 := Lib.hid (HG0.out.on hb)
  have HB1 := Lib.hid (HB0.out.trans (hb.mono HB0.out.size))
  clear hb
  go_wp2_with fail
  clear HG1 HG0 HB0
  go_loopw [31] (fun i wr => ∃ k : Nat, k ≤ n ∧ i = .int .i64 k ∧ Hid (Below w.heap.size w wr)) (fun i _ => n - (intOf i).toNat)
  case atStart => exact ⟨0, by omega, rfl, HB1⟩
  case round =>
    obtain ⟨k, hk, rfl, HB2⟩ := hrel
    have HG2 := Lib.hid (unhide hGw wr HB2.out)
    clear HB1
    by_cases hkn : k < n
    · have hkn2 : (k : Int) < (n : Int) := by omega
      obtain ⟨K, U, N, M, S, T, hU, hO⟩ := HA.out k hkn
      obtain ⟨c0, c1, c2, c3, c4, c5⟩ := hO.keep HB2.out HBW.out
      have HU := Lib.hid hU
      clear hO hU
      have hb3 := (Below.refl wr.heap.size wr).alloc (Nat.le_refl _) (.cells #[.int .i64 K, .int .u64 (U : Int), .int .i64 N, .int .i64 M, .string S, .string T] 38)
      have HG3 := Lib.hid (HG2.out.on hb3)
      have HB3 := Lib.hid (HB2.out.trans (hb3.mono HB2.out.size))
      have HO3 := Lib.hid (opAt_new wr 38 K U N M S T)
      have hgl : Hid (wr.heap.size < (wr.alloc (.cells #[.int .i64 K, .int .u64 (U : Int), .int .i64 N, .int .i64 M, .string S, .string T] 38)).heap.size) := Lib.hid (by simp)
      clear hb3
      by_cases e1 : K = 1
      · subst e1
        obtain ⟨R, ev, m, hm, k1, k2⟩ := seal_gen U HU.out S B A
        have K1 := hide k1
        have K2 := hide k2
        have KM := hide hm
        clear hm
        clear k1 k2
        go_wp2_with fail
        refine (unhide K1 _ HG3.out).mono ?_
        rintro e w4 ⟨rfl, hb⟩
        have HG4 := Lib.hid (HG3.out.on hb)
        have HB4 := Lib.hid (HB3.out.trans (hb.mono HB3.out.size))
        obtain ⟨d0, d1, d2, d3, d4, d5⟩ := HO3.out.keep hb hgl.out
        clear hb HG3 HB3 HO3 c0 c1 c2 c3 c4 c5 hgl
        go_wp2_with fail
        refine (unhide K2 _).mono ?_
        rintro e w5 ⟨rfl, hb⟩
        have HG5 := Lib.hid (HG4.out.on hb)
        have HB5 := Lib.hid (HB4.out.trans (hb.mono HB4.out.size))
        clear hb
        go_wp2_with fail
        refine (unhide KM _ HG5.out).mono ?_
        rintro e w6 ⟨rfl, hb⟩
        have HG6 := Lib.hid (HG5.out.on hb)
        have HB6 := Lib.hid (HB5.out.trans (hb.mono HB5.out.size))
        clear hb
        go_wp2_with fail
        go_roundw
        case rel => exact ⟨k + 1, by omega, by go_num, HB6⟩
        case measure => simp [intOf]; omega
      by_cases e2 : K = 2
      · subst e2
        obtain ⟨q, hq⟩ : ∃ q, Hid (openS U S = q) := ⟨_, Lib.hid rfl⟩
        obtain ⟨ob, hob⟩ : ∃ q, Hid ((openL U S.data.toList).isSome = q) := ⟨_, Lib.hid rfl⟩
        have k1 := fun (W : World) (hW : Glob B W A) => open_ok U HU.out S B A W hW q ob hq hob
        have k2 := fun (W : World) => openr_any U HU.out S q ob hq hob W
        have K1 := hide k1
        have K2 := hide k2
        clear k1 k2 hq hob
        cases ob
        all_goals
          go_wp2_with fail
          refine (unhide K1 _ HG3.out).mono ?_
          rintro e w4 ⟨rfl, hb⟩
          have HG4 := Lib.hid (HG3.out.on hb)
          have HB4 := Lib.hid (HB3.out.trans (hb.mono HB3.out.size))
          obtain ⟨d0, d1, d2, d3, d4, d5⟩ := HO3.out.keep hb hgl.out
          clear hb HG3 HB3 HO3 c0 c1 c2 c3 c4 c5 hgl
          go_wp2_with fail
          refine (unhide K2 _).mono ?_
          rintro e w5 ⟨rfl, hb⟩
          have HG5 := Lib.hid (HG4.out.on hb)
          have HB5 := Lib.hid (HB4.out.trans (hb.mono HB4.out.size))
          clear hb
          go_wp2_with fail
          go_roundw
          case rel => exact ⟨k + 1, by omega, by go_num, HB5⟩
          case measure => simp [intOf]; omega
      by_cases e3 : K = 3
      · subst e3
        obtain ⟨ea, eb, ev, m, hm, k1, k2⟩ := ends_gen S B A
        have K1 := hide k1
        have K2 := hide k2
        have KM := hide hm
        clear hm
        clear k1 k2
        go_wp2_with fail
        refine (unhide K1 _ HG3.out).mono ?_
        rintro e w4 ⟨rfl, hb⟩
        have HG4 := Lib.hid (HG3.out.on hb)
        have HB4 := Lib.hid (HB3.out.trans (hb.mono HB3.out.size))
        obtain ⟨d0, d1, d2, d3, d4, d5⟩ := HO3.out.keep hb hgl.out
        clear hb HG3 HB3 HO3 c0 c1 c2 c3 c4 c5 hgl
        go_wp2_with fail
        refine (unhide K2 _).mono ?_
        rintro e w5 ⟨rfl, hb⟩
        have HG5 := Lib.hid (HG4.out.on hb)
        have HB5 := Lib.hid (HB4.out.trans (hb.mono HB4.out.size))
        clear hb
        go_wp2_with fail
        refine (unhide KM _ HG5.out).mono ?_
        rintro e w6 ⟨rfl, hb⟩
        have HG6 := Lib.hid (HG5.out.on hb)
        have HB6 := Lib.hid (HB5.out.trans (hb.mono HB5.out.size))
        clear hb
        go_wp2_with fail
        go_roundw
        case rel => exact ⟨k + 1, by omega, by go_num, HB6⟩
        case measure => simp [intOf]; omega
      by_cases e4 : K = 4
      · subst e4
        obtain ⟨x, ev, m, hm, k1, k2⟩ := log_gen N M B A
        have K1 := hide k1
        have K2 := hide k2
        have KM := hide hm
        clear hm
        clear k1 k2
        go_wp2_with fail
        refine (unhide K1 _ HG3.out).mono ?_
        rintro e w4 ⟨rfl, hb⟩
        have HG4 := Lib.hid (HG3.out.on hb)
        have HB4 := Lib.hid (HB3.out.trans (hb.mono HB3.out.size))
        obtain ⟨d0, d1, d2, d3, d4, d5⟩ := HO3.out.keep hb hgl.out
        clear hb HG3 HB3 HO3 c0 c1 c2 c3 c4 c5 hgl
        go_wp2_with fail
        refine (unhide K2 _).mono ?_
        rintro e w5 ⟨rfl, hb⟩
        have HG5 := Lib.hid (HG4.out.on hb)
        have HB5 := Lib.hid (HB4.out.trans (hb.mono HB4.out.size))
        clear hb
        go_wp2_with fail
        refine (unhide KM _ HG5.out).mono ?_
        rintro e w6 ⟨rfl, hb⟩
        have HG6 := Lib.hid (HG5.out.on hb)
        have HB6 := Lib.hid (HB5.out.trans (hb.mono HB5.out.size))
        clear hb
        go_wp2_with fail
        go_roundw
        case rel => exact ⟨k + 1, by omega, by go_num, HB6⟩
        case measure => simp [intOf]; omega
      by_cases e5 : K = 5
      · subst e5
        obtain ⟨R, ev, m, hm, k1, k2⟩ := tear_gen S T N B A
        have K1 := hide k1
        have K2 := hide k2
        have KM := hide hm
        clear hm
        clear k1 k2
        go_wp2_with fail
        refine (unhide K1 _ HG3.out).mono ?_
        rintro e w4 ⟨rfl, hb⟩
        have HG4 := Lib.hid (HG3.out.on hb)
        have HB4 := Lib.hid (HB3.out.trans (hb.mono HB3.out.size))
        obtain ⟨d0, d1, d2, d3, d4, d5⟩ := HO3.out.keep hb hgl.out
        clear hb HG3 HB3 HO3 c0 c1 c2 c3 c4 c5 hgl
        go_wp2_with fail
        refine (unhide K2 _).mono ?_
        rintro e w5 ⟨rfl, hb⟩
        have HG5 := Lib.hid (HG4.out.on hb)
        have HB5 := Lib.hid (HB4.out.trans (hb.mono HB4.out.size))
        clear hb
        go_wp2_with fail
        refine (unhide KM _ HG5.out).mono ?_
        rintro e w6 ⟨rfl, hb⟩
        have HG6 := Lib.hid (HG5.out.on hb)
        have HB6 := Lib.hid (HB5.out.trans (hb.mono HB5.out.size))
        clear hb
        go_wp2_with fail
        go_roundw
        case rel => exact ⟨k + 1, by omega, by go_num, HB6⟩
        case measure => simp [intOf]; omega
      have f1 : (K == 1) = false := beq_eq_false_iff_ne.2 e1
      have f2 : (K == 2) = false := beq_eq_false_iff_ne.2 e2
      have f3 : (K == 3) = false := beq_eq_false_iff_ne.2 e3
      have f4 : (K == 4) = false := beq_eq_false_iff_ne.2 e4
      have f5 : (K == 5) = false := beq_eq_false_iff_ne.2 e5
      clear e1 e2 e3 e4 e5
      go_wp2_with fail
      go_roundw
      case rel => exact ⟨k + 1, by omega, by go_num, HB3⟩
      case measure => simp [intOf]; omega
    · have hkn2 : ¬ (k : Int) < (n : Int) := by omega
      go_wp2_with fail
      go_ret
      exact ⟨rfl, HB2.out⟩
set_option maxRecDepth 100000 in
set_option maxHeartbeats 1000000 in
theorem plays_zero (ad : Option Addr) (cap : Nat) (B : Nat) (A : Nat → Addr) (w : World) (hG : Glob B w A) :
    Calls Tryd.prog 5 #[.slice ad 0 cap] w fun e w' => e = .returned (.bool true) ∧ Below w.heap.size w w' := by
  have HG0 := Lib.hid hG
  have HB0 : Hid (Below w.heap.size w w) := Lib.hid (Below.refl _ _)
  clear hG
  go_enter Tryd.func5, Tryd.ntmps5
  go_wp2_with fail
  refine (fixed_any B A _ HG0.out).mono ?_
  rintro e w1 ⟨rfl, hb⟩
  have HG1 := Lib.hid (HG0.out.on hb)
  have HB1 := Lib.hid (HB0.out.trans (hb.mono HB0.out.size))
  clear hb
  go_wp2_with fail
  go_loopw [31] (fun i wr => i = .int .i64 0 ∧ Hid (Below w.heap.size w wr)) (fun _ _ => 0)
  case atStart => exact ⟨rfl, HB1⟩
  case round =>
    obtain ⟨rfl, HB3⟩ := hrel
    go_wp2_with fail
    go_ret
    exact ⟨rfl, HB3.out⟩
end Go.Proofs.YtffmekcpkilkoaaDoor
