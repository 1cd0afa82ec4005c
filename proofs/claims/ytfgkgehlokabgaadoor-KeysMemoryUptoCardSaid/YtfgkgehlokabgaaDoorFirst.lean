/-
  Walks over layer 2: first.
-/
import Derived.Test.YtfgkgehlokabgaaDoorText
namespace Go.Proofs.YtfgkgehlokabgaaDoor
open Go.RowKit

/-- first's answer. -/
def FirstOut (l : List UInt8) (w : World) (e : Ending) (w' : World) : Prop :=
  (∀ p r, Ky.firstF l = some (p, r) → e = .returned (.tuple #[.agg #[.bool p.num, .int .i64 p.n, .string ⟨p.s.toArray⟩], .string ⟨r.toArray⟩, .bool true])) ∧
  (Ky.firstF l = none → e = .returned (.tuple #[.agg #[.bool false, .int .i64 0, .string ⟨#[]⟩], .string ⟨#[]⟩, .bool false])) ∧ Below w.heap.size w w'
theorem firstOut_none {l : List UInt8} {w w' : World} {e : Ending} (h : Ky.firstF l = none) (he : e = .returned (.tuple #[.agg #[.bool false, .int .i64 0, .string ⟨#[]⟩], .string ⟨#[]⟩, .bool false])) (hb : Below w.heap.size w w') : FirstOut l w e w' :=
  ⟨fun s r e' => (by rw [h] at e'; cases e'), fun _ => he, hb⟩
theorem firstOut_some {l : List UInt8} {p : Ky.Part} {r : List UInt8} {w w' : World} {e : Ending} (h : Ky.firstF l = some (p, r)) (he : e = .returned (.tuple #[.agg #[.bool p.num, .int .i64 p.n, .string ⟨p.s.toArray⟩], .string ⟨r.toArray⟩, .bool true])) (hb : Below w.heap.size w w') : FirstOut l w e w' :=
  ⟨fun s r' e' => (by rw [h] at e'; cases e'; exact he), fun e' => (by rw [h] at e'; cases e'), hb⟩
theorem or_byte (X b : Nat) (hX : X < 72057594037927936) (hb : b < 256) (V W : Int) (hV : V = (X : Int) * 256) (hW : W = (b : Int)) : bits .or .u64 V W = ((X * 256 + b : Nat) : Int) := by
  have e : V = ((X * 256 : Nat) : Int) := by rw [hV]; omega
  rw [e, hW, u64_or_nat _ _ (by omega) (by omega)]
  have := Nat.two_pow_add_eq_or_of_lt (i := 8) hb X
  rw [show (2 : Nat) ^ 8 = 256 from rfl, Nat.mul_comm] at this
  rw [this]
theorem unbe_take (s : ByteArray) (l : List UInt8) (hl : s.data.toList = l) (j : Nat) (h : j + 1 < s.size) : Ky.unbe ((l.drop 1).take (j + 1)) = Ky.unbe ((l.drop 1).take j) * 256 + (s[j + 1]'h).toNat := by
  subst hl
  have h1 : j < (s.data.toList.drop 1).length := by rw [List.length_drop, size_toList]; omega
  rw [List.take_succ_eq_append_getElem h1, Ky.unbe_snoc]
  congr 2
  rw [List.getElem_drop]
  simp only [Nat.add_comm 1 j]
  rfl
theorem unbe_bd (l : List UInt8) (j : Nat) (h : j ≤ 7) : Ky.unbe (l.take j) < 72057594037927936 := by
  have h1 := Ky.unbe_lt (l.take j)
  have h2 : (256 : Nat) ^ (l.take j).length ≤ 256 ^ 7 := Nat.pow_le_pow_right (by omega) (by have := List.length_take_le j l; omega)
  have h3 : (256 : Nat) ^ 7 = 72057594037927936 := by decide
  omega
theorem unbe_bd8 (l : List UInt8) : Ky.unbe (l.take 8) < 18446744073709551616 := by
  have h1 := Ky.unbe_lt (l.take 8)
  have h2 : (256 : Nat) ^ (l.take 8).length ≤ 256 ^ 8 := Nat.pow_le_pow_right (by omega) (by have := List.length_take_le 8 l; omega)
  have h3 : (256 : Nat) ^ 8 = 18446744073709551616 := by decide
  omega
theorem num_wrap (X : Nat) (h : X < 18446744073709551616) : ∃ z : Int, IntKind.i64.wrap (IntKind.u64.wrap ((X : Int) - 9223372036854775808)) = z ∧ z = (X : Int) - 9223372036854775808 :=
  ⟨(X : Int) - 9223372036854775808, by rw [IntKind.wrap_u64, IntKind.wrap_i64]; omega, rfl⟩
set_option maxRecDepth 100000 in
set_option maxHeartbeats 8000000 in
theorem first_walk (s : ByteArray) (l : List UInt8) (hl : s.data.toList = l) (hs0 : 0 < s.size) (hs : s.size ≤ 1099511627776) (w : World) :
    Calls Tryd.prog 18 #[.string s] w (FirstOut l w) := by
  have HL := Lib.hid hl
  have hP0 := Lib.hid (Blk.new w #[.bool false, .int .i64 0, .string ⟨#[]⟩] 39)
  have hs2 : (0 : Int) < (s.size : Int) := by omega
  obtain ⟨c, hc⟩ : ∃ c : UInt8, Hid (s[0]'hs0 = c) := ⟨_, Lib.hid rfl⟩
  have hcons : Hid (l = c :: l.drop 1) := by
    have := drop_cons s l hl 0 hs0
    rw [List.drop_zero, hc.out] at this
    exact Lib.hid this
  have HB0 := Lib.hid ((Below.refl w.heap.size w).alloc (Nat.le_refl _) (.cells #[.bool false, .int .i64 0, .string ⟨#[]⟩] 39))
  clear hl
  by_cases h1 : c = 1
  · subst h1
    have hcv : ((s[0]'hs0).toNat : Int) = 1 := by rw [hc.out]; rfl
    by_cases h9 : s.size < 9
    · have h9i : (s.size : Int) < 9 := by omega
      have HF : Hid (Ky.firstF l = none) := by
        rw [hcons.out, Ky.firstF_cons, if_pos rfl, if_pos (by rw [List.length_drop, ← HL.out, size_toList]; omega)]
        exact Lib.hid rfl
      go_enter Tryd.func18, Tryd.ntmps18
      go_wp2_with fail
      refine bodyPost_ret (v := .tuple #[.agg #[.bool false, .int .i64 0, .string ⟨#[]⟩], .string ⟨#[]⟩, .bool false]) (by rw [results_cell2 rfl]; go_simp) rfl ?_
      exact firstOut_none HF.out rfl HB0.out
    · have h9i : ¬ (s.size : Int) < 9 := by omega
      have HF : Hid (Ky.firstF l = some (⟨true, (Ky.unbe ((l.drop 1).take 8) : Int) - 9223372036854775808, []⟩, l.drop 9)) := by
        rw [hcons.out, Ky.firstF_cons, if_pos rfl, if_neg (by rw [List.length_drop, ← HL.out, size_toList]; omega), ← hcons.out, List.drop_drop]
        exact Lib.hid rfl
      go_enter Tryd.func18, Tryd.ntmps18
      go_wp2_with fail
      go_loop [5, 6] (fun n i => ∃ j X : Nat, j ≤ 8 ∧ i = .int .i64 ((j : Int) + 1) ∧ n = .int .u64 X ∧ Hid (X = Ky.unbe ((l.drop 1).take j))) (fun _ i => 9 - (intOf i).toNat)
      case atStart => exact ⟨0, 0, by omega, rfl, rfl, Lib.hid rfl⟩
      case round =>
        obtain ⟨j, X, hj, rfl, rfl, hX⟩ := hrel
        by_cases hj8 : j < 8
        · have hjs : j + 1 < s.size := by omega
          have hjs2 : (j : Int) + 1 < (s.size : Int) := by omega
          have hj9 : (j : Int) + 1 < 9 := by omega
          have hXb : (X : Int) ≤ 72057594037927935 := by have := unbe_bd (l.drop 1) j (by omega); have := hX.out; omega
          have hb := (s[j + 1]'hjs).toNat_lt
          have hn := Lib.hid (unbe_take s l HL.out j hjs)
          have hor := or_byte X (s[j + 1]'hjs).toNat (by omega) hb ((X : Int) * 256) _ rfl rfl
          have HOR := Lib.hid hor
          clear hor
          go_wp2_with fail
          exact ⟨⟨j + 1, X * 256 + (s[j + 1]'hjs).toNat, by omega, congrArg (Value.int .i64) (by omega), congrArg (Value.int .u64) HOR.out, by rw [hn.out, ← hX.out]; exact Lib.hid rfl⟩, by simp [intOf]; omega⟩
        · have hj9 : ¬ (j : Int) + 1 < 9 := by omega
          obtain rfl : j = 8 := by omega
          have hXl : Hid (X < 18446744073709551616) := by rw [hX.out]; exact Lib.hid (unbe_bd8 _)
          obtain ⟨z, hz, hz2⟩ := num_wrap X hXl.out
          have HZ := Lib.hid hz2
          have hs9 : (9 : Int) ≤ (s.size : Int) := by omega
          have hs9' : 9 ≤ s.size := by omega
          clear hz2
          go_wp2_with fail
          go_region_with (go_at_call 16; ((with_reducible refine (number_any _ _).mono ?_); rintro e w2 ⟨rfl, hb⟩; have hP2 := hP0.out.below (undrew hb) hP0.out.lt; obtain ⟨e0, e1, e2⟩ := part_cells hP2; obtain ⟨k0, k1, k2⟩ := part_free hP2))
          all_goals
            go_wp2_with fail
            refine bodyPost_ret (v := .tuple #[.agg #[.bool true, .int .i64 z, .string ⟨#[]⟩], .string (s.extract 9 s.size), .bool true]) (by rw [results_cell2 rfl]; go_simp) rfl ?_
            refine firstOut_some HF.out ?_ (below3 (HB0.out.trans ((undrew hb).mono HB0.out.size)) (Nat.le_refl _) _ _ _)
            rw [drop_str s l HL.out 9, HZ.out, hX.out]
  · by_cases h2 : c = 2
    · subst h2
      have hcv : ((s[0]'hs0).toNat : Int) = 2 := by rw [hc.out]; rfl
      have hs9 : (1 : Int) ≤ (s.size : Int) := by omega
      have hs9' : 1 ≤ s.size := by omega
      have hx := text_walk (s.extract 1 s.size) (l.drop 1) (by rw [drop_str s l HL.out 1]) (by simp; omega)
      have HX := hide hx
      have HF : Hid (Ky.firstF l = (Ky.textF (l.drop 1)).map (fun x => (⟨false, 0, x.1⟩, x.2))) := by
        rw [hcons.out, Ky.firstF_cons, if_neg (by decide), if_pos rfl, ← hcons.out]
        exact Lib.hid rfl
      clear hx h1
      go_enter Tryd.func18, Tryd.ntmps18
      go_wp2_with fail
      refine (unhide HX _).mono ?_
      rintro e w1 ⟨hsome, hnone, hb⟩
      have hP2 := hP0.out.below hb hP0.out.lt
      obtain ⟨e0, e1, e2⟩ := part_cells hP2
      obtain ⟨k0, k1, k2⟩ := part_free hP2
      have HB1 := Lib.hid (HB0.out.trans (hb.mono HB0.out.size))
      cases ho : Ky.textF (l.drop 1) with
      | none =>
        obtain rfl := hnone ho
        have HF2 : Hid (Ky.firstF l = none) := by rw [HF.out, ho]; exact Lib.hid rfl
        clear hsome hnone ho hP2 hb
        go_wp2_with fail
        refine bodyPost_ret (v := .tuple #[.agg #[.bool false, .int .i64 0, .string ⟨#[]⟩], .string ⟨#[]⟩, .bool false]) (by rw [results_cell2 rfl]; go_simp) rfl ?_
        exact firstOut_none HF2.out rfl (below3 HB1.out (Nat.le_refl _) _ _ _)
      | some x =>
        obtain ⟨m, r⟩ := x
        obtain rfl := hsome m r ho
        have HF2 : Hid (Ky.firstF l = some (⟨false, 0, m⟩, r)) := by rw [HF.out, ho]; exact Lib.hid rfl
        clear hsome hnone ho hP2 hb
        go_wp2_with fail
        refine bodyPost_ret (v := .tuple #[.agg #[.bool false, .int .i64 0, .string ⟨m.toArray⟩], .string ⟨r.toArray⟩, .bool true]) (by rw [results_cell2 rfl]; go_simp) rfl ?_
        exact firstOut_some HF2.out rfl (below3 HB1.out (Nat.le_refl _) _ _ _)
    · have hn1 : (((s[0]'hs0).toNat : Int) == 1) = false := beq_eq_false_iff_ne.2 fun e => h1 (UInt8.toNat_inj.1 (by rw [hc.out] at e; show c.toNat = 1; omega))
      have hn2 : (((s[0]'hs0).toNat : Int) == 2) = false := beq_eq_false_iff_ne.2 fun e => h2 (UInt8.toNat_inj.1 (by rw [hc.out] at e; show c.toNat = 2; omega))
      have HF : Hid (Ky.firstF l = none) := by
        rw [hcons.out, Ky.firstF_cons, if_neg h1, if_neg h2]
        exact Lib.hid rfl
      clear h1 h2
      go_enter Tryd.func18, Tryd.ntmps18
      go_wp2_with fail
      refine bodyPost_ret (v := .tuple #[.agg #[.bool false, .int .i64 0, .string ⟨#[]⟩], .string ⟨#[]⟩, .bool false]) (by rw [results_cell2 rfl]; go_simp) rfl ?_
      exact firstOut_none HF.out rfl HB0.out
end Go.Proofs.YtfgkgehlokabgaaDoor
