/-
  Walks over statements of layer 2: beginnings.
-/
import Derived.Test.YtfgkgehlokabgaaOrder
namespace Go.Proofs.Ytfgkgehlokabgaa
open Go.RowKit

theorem In.take {w : World} {ad : Option Addr} {n m : Nat} {L : Nat → PV} (h : In w ad n L) (hm : m ≤ n) : In w ad m L :=
  ⟨fun h0 => by
    obtain ⟨b, off, e, hb, hc⟩ := h.at_ (by omega)
    exact ⟨b, off, e, hb, fun i hi => hc i (by omega)⟩, Nat.le_trans hm h.n_le, fun i hi => h.ok i (by omega), Nat.le_trans (ks_le L hm) h.key⟩
theorem lst_take (L : Nat → PV) {m n : Nat} (h : m ≤ n) : (lst L n).take m = lst L m := by
  rw [lst_split L h, List.take_left' (lst_length L m)]
theorem heads_eq {w : World} {ad bd : Option Addr} {na nb : Nat} {A B : Nat → PV} (hA : In w ad na A) (hB : In w bd nb B) : Ky.beg (ks B nb) (ks A na) = (decide (na ≤ nb) && sameB A B na na) := by
  rw [Bool.eq_iff_iff, Ky.beg_iff, Bool.and_eq_true, decide_eq_true_eq]
  have h := Ky.key_heads (lst A na) (lst B nb) hA.fine hB.fine
  rw [lst_length, lst_length] at h
  refine h.trans ⟨fun ⟨h1, h2⟩ => ⟨h1, ?_⟩, fun ⟨h1, h2⟩ => ⟨h1, ?_⟩⟩
  · unfold sameB
    rw [lst_take B h1] at h2
    exact decide_eq_true h2
  · rw [lst_take B h1]
    unfold sameB at h2
    exact of_decide_eq_true h2
theorem begins_at (t s : ByteArray) (r : Bool) (hr : Hid (Ky.beg t.data.toList s.data.toList = r)) (w : World) :
    Calls Try.prog 8 #[.string t, .string s] w fun e w' => e = .returned (.bool r) ∧ w = w' := by
  rw [← hr.out]
  exact begins_any t s w
set_option maxRecDepth 100000 in
set_option maxHeartbeats 8000000 in
theorem heads_1 (ad bd : Option Addr) (na ca nb cb : Nat) (A B : Nat → PV) (s t : ByteArray) (hcb : nb ≤ cb) (hs : s.size ≤ 140737488355328) (k : Nat) (hl : s.data.toList = Ky.tops k) (hle : na ≤ nb) (w : World) (hA : In w ad na A) (hB : In w bd nb B) :
    Calls Try.prog 3 #[.slice ad na ca, .slice bd nb cb, .string s, .string t] w fun e w' => e = .returned (.bool true) ∧ Below w.heap.size w w' := by
  obtain ⟨x, hx⟩ : ∃ t, Hid (keyS A na = t) := ⟨_, Lib.hid rfl⟩
  obtain ⟨y, hy⟩ : ∃ t, Hid (keyS B nb = t) := ⟨_, Lib.hid rfl⟩
  obtain ⟨g, hg⟩ : ∃ r, Hid (sameB A B na na = r) := ⟨_, Lib.hid rfl⟩
  have hbg : Hid (Ky.beg y.data.toList x.data.toList = g) := by
    have := heads_eq hA hB
    rw [hg.out] at this
    rw [← hx.out, ← hy.out]
    rw [decide_eq_true hle, Bool.true_and] at this
    exact Lib.hid this
  have J1 := hide fun W hb => join_at hA ca x hx W hb
  have J2 := hide fun W hb => join_at hB cb y hy W hb
  have S1 := hide fun W hb => same_at hA (hB.take hle) ca cb g hg W hb
  have hle2 : (na : Int) ≤ (nb : Int) := by omega
  have hle3 : (na : Int) ≤ (cb : Int) := by omega
  have B1 := hide fun W => begins_at y x _ hbg W
  have A1 := hide fun W => after_none s k hl (by omega) W
  obtain ⟨q1, hq1⟩ : ∃ r, Hid (Op.bytesLess t.data.toList s.data.toList = r) := ⟨_, Lib.hid rfl⟩
  have hb2 : Hid (Ky.beg t.data.toList s.data.toList = !q1) := by rw [← hq1.out, hl]; exact Lib.hid (Ky.beg_tops k _)
  have f1 : Op.bytesLess t.toList s.toList = q1 := by rw [ByteArray.toList_eq, ByteArray.toList_eq]; exact hq1.out
  have B2 := hide fun W => begins_at t s _ hb2 W
  have hsz : s.size = k := by rw [← size_toList, hl]; simp [Ky.tops]
  have HZ := Lib.hid hsz
  have HLL := Lib.hid hl
  clear hq1 hb2 hl hsz
  clear hx hy hg hbg hA hB hle
  have HB0 : Hid (Below w.heap.size w w) := Lib.hid (Below.refl _ _)
  go_enter Try.func3, Try.ntmps3
  go_wp2_with fail
  refine (lives_any _).mono ?_
  rintro e w1 ⟨rfl, hb⟩
  have HB1 := Lib.hid (HB0.out.trans (hb.mono HB0.out.size))
  clear hb
  go_wp2_with fail
  refine (unhide S1 _ HB1.out).mono ?_
  rintro e w2 ⟨rfl, hb⟩
  have HB2 := Lib.hid (HB1.out.trans (hb.mono HB1.out.size))
  clear hb
  go_wp2_with fail
  refine (unhide J2 _ HB2.out).mono ?_
  rintro e w3 ⟨rfl, hb⟩
  have HB3 := Lib.hid (HB2.out.trans (hb.mono HB2.out.size))
  clear hb
  go_wp2_with fail
  refine (unhide J1 _ HB3.out).mono ?_
  rintro e w4 ⟨rfl, hb⟩
  have HB4 := Lib.hid (HB3.out.trans (hb.mono HB3.out.size))
  clear hb
  go_wp2_with fail
  refine (unhide B1 _).mono ?_
  rintro e w9 ⟨rfl, rfl⟩
  cases g
  all_goals
    go_wp2_with fail
    refine (unhide A1 _).mono ?_
    rintro e w5 ⟨rfl, hb⟩
    have HB5 := Lib.hid (HB4.out.trans (hb.mono HB4.out.size))
    clear hb
    go_wp2_with fail
    go_loop [13] (fun i => ∃ j : Nat, j ≤ s.size ∧ i = .int .i64 j) (fun i => s.size - (intOf i).toNat)
    case atStart => exact ⟨0, by omega, rfl⟩
    case round =>
      obtain ⟨j, hj, rfl⟩ := hrel
      by_cases hjs : j < s.size
      · have hj2 : (j : Int) < (s.size : Int) := by omega
        have hb : s[j]'hjs = 255 := by
          have := byte_at s _ HLL.out j hjs
          rw [tops_get k j (by have := HZ.out; omega)] at this
          exact Option.some.inj this
        have hv : ((s[j]'hjs).toNat : Int) = 255 := by rw [hb]; rfl
        clear hb
        go_wp2_with fail
        go_round
        case rel => exact ⟨j + 1, by omega, by go_num⟩
        case measure => simp [intOf]; omega
      · have hj2 : ¬ (j : Int) < (s.size : Int) := by omega
        cases q1
        all_goals
          go_wp2_with fail
          refine (unhide B2 _).mono ?_
          rintro e w9 ⟨rfl, rfl⟩
          go_wp2_with fail
          go_ret
          exact ⟨rfl, HB5.out⟩
set_option maxRecDepth 100000 in
set_option maxHeartbeats 8000000 in
theorem heads_2 (ad bd : Option Addr) (na ca nb cb : Nat) (A B : Nat → PV) (s t : ByteArray) (hs : s.size ≤ 140737488355328) (k : Nat) (hl : s.data.toList = Ky.tops k) (hle : nb < na) (w : World) (hA : In w ad na A) (hB : In w bd nb B) :
    Calls Try.prog 3 #[.slice ad na ca, .slice bd nb cb, .string s, .string t] w fun e w' => e = .returned (.bool true) ∧ Below w.heap.size w w' := by
  obtain ⟨x, hx⟩ : ∃ t, Hid (keyS A na = t) := ⟨_, Lib.hid rfl⟩
  obtain ⟨y, hy⟩ : ∃ t, Hid (keyS B nb = t) := ⟨_, Lib.hid rfl⟩
  obtain ⟨g, hg⟩ : ∃ r, Hid (sameB A B na na = r) := ⟨_, Lib.hid rfl⟩
  have hbg : Hid (Ky.beg y.data.toList x.data.toList = false) := by
    have := heads_eq hA hB
    rw [hg.out] at this
    rw [← hx.out, ← hy.out]
    rw [decide_eq_false (by omega), Bool.false_and] at this
    exact Lib.hid this
  have J1 := hide fun W hb => join_at hA ca x hx W hb
  have J2 := hide fun W hb => join_at hB cb y hy W hb
  have hle2 : ¬ (na : Int) ≤ (nb : Int) := by omega
  have B1 := hide fun W => begins_at y x _ hbg W
  have A1 := hide fun W => after_none s k hl (by omega) W
  obtain ⟨q1, hq1⟩ : ∃ r, Hid (Op.bytesLess t.data.toList s.data.toList = r) := ⟨_, Lib.hid rfl⟩
  have hb2 : Hid (Ky.beg t.data.toList s.data.toList = !q1) := by rw [← hq1.out, hl]; exact Lib.hid (Ky.beg_tops k _)
  have f1 : Op.bytesLess t.toList s.toList = q1 := by rw [ByteArray.toList_eq, ByteArray.toList_eq]; exact hq1.out
  have B2 := hide fun W => begins_at t s _ hb2 W
  have hsz : s.size = k := by rw [← size_toList, hl]; simp [Ky.tops]
  have HZ := Lib.hid hsz
  have HLL := Lib.hid hl
  clear hq1 hb2 hl hsz
  clear hx hy hg hbg hA hB hle
  have HB0 : Hid (Below w.heap.size w w) := Lib.hid (Below.refl _ _)
  go_enter Try.func3, Try.ntmps3
  go_wp2_with fail
  refine (lives_any _).mono ?_
  rintro e w1 ⟨rfl, hb⟩
  have HB1 := Lib.hid (HB0.out.trans (hb.mono HB0.out.size))
  clear hb
  go_wp2_with fail
  refine (unhide J2 _ HB1.out).mono ?_
  rintro e w2 ⟨rfl, hb⟩
  have HB2 := Lib.hid (HB1.out.trans (hb.mono HB1.out.size))
  clear hb
  go_wp2_with fail
  refine (unhide J1 _ HB2.out).mono ?_
  rintro e w3 ⟨rfl, hb⟩
  have HB3 := Lib.hid (HB2.out.trans (hb.mono HB2.out.size))
  clear hb
  go_wp2_with fail
  refine (unhide B1 _).mono ?_
  rintro e w9 ⟨rfl, rfl⟩
  go_wp2_with fail
  refine (unhide A1 _).mono ?_
  rintro e w4 ⟨rfl, hb⟩
  have HB4 := Lib.hid (HB3.out.trans (hb.mono HB3.out.size))
  clear hb
  go_wp2_with fail
  go_loop [13] (fun i => ∃ j : Nat, j ≤ s.size ∧ i = .int .i64 j) (fun i => s.size - (intOf i).toNat)
  case atStart => exact ⟨0, by omega, rfl⟩
  case round =>
    obtain ⟨j, hj, rfl⟩ := hrel
    by_cases hjs : j < s.size
    · have hj2 : (j : Int) < (s.size : Int) := by omega
      have hb : s[j]'hjs = 255 := by
        have := byte_at s _ HLL.out j hjs
        rw [tops_get k j (by have := HZ.out; omega)] at this
        exact Option.some.inj this
      have hv : ((s[j]'hjs).toNat : Int) = 255 := by rw [hb]; rfl
      clear hb
      go_wp2_with fail
      go_round
      case rel => exact ⟨j + 1, by omega, by go_num⟩
      case measure => simp [intOf]; omega
    · have hj2 : ¬ (j : Int) < (s.size : Int) := by omega
      cases q1
      all_goals
        go_wp2_with fail
        refine (unhide B2 _).mono ?_
        rintro e w9 ⟨rfl, rfl⟩
        go_wp2_with fail
        go_ret
        exact ⟨rfl, HB4.out⟩
set_option maxRecDepth 100000 in
set_option maxHeartbeats 8000000 in
theorem heads_3 (ad bd : Option Addr) (na ca nb cb : Nat) (A B : Nat → PV) (s t : ByteArray) (hcb : nb ≤ cb) (hs : s.size ≤ 140737488355328) (p : List UInt8) (c : UInt8) (k : Nat) (hc : c ≠ 255) (hl : s.data.toList = p ++ c :: Ky.tops k) (hle : na ≤ nb) (w : World) (hA : In w ad na A) (hB : In w bd nb B) :
    Calls Try.prog 3 #[.slice ad na ca, .slice bd nb cb, .string s, .string t] w fun e w' => e = .returned (.bool true) ∧ Below w.heap.size w w' := by
  obtain ⟨x, hx⟩ : ∃ t, Hid (keyS A na = t) := ⟨_, Lib.hid rfl⟩
  obtain ⟨y, hy⟩ : ∃ t, Hid (keyS B nb = t) := ⟨_, Lib.hid rfl⟩
  obtain ⟨g, hg⟩ : ∃ r, Hid (sameB A B na na = r) := ⟨_, Lib.hid rfl⟩
  have hbg : Hid (Ky.beg y.data.toList x.data.toList = g) := by
    have := heads_eq hA hB
    rw [hg.out] at this
    rw [← hx.out, ← hy.out]
    rw [decide_eq_true hle, Bool.true_and] at this
    exact Lib.hid this
  have J1 := hide fun W hb => join_at hA ca x hx W hb
  have J2 := hide fun W hb => join_at hB cb y hy W hb
  have S1 := hide fun W hb => same_at hA (hB.take hle) ca cb g hg W hb
  have hle2 : (na : Int) ≤ (nb : Int) := by omega
  have hle3 : (na : Int) ≤ (cb : Int) := by omega
  have B1 := hide fun W => begins_at y x _ hbg W
  obtain ⟨z, hz⟩ : ∃ z : ByteArray, Hid (z = ⟨(p ++ [c + 1]).toArray⟩) := ⟨_, Lib.hid rfl⟩
  have A1 := hide fun W => after_some s p c k hc hl hs W
  rw [← hz.out] at A1
  obtain ⟨q1, hq1⟩ : ∃ r, Hid (Op.bytesLess t.data.toList s.data.toList = r) := ⟨_, Lib.hid rfl⟩
  obtain ⟨q2, hq2⟩ : ∃ r, Hid (Op.bytesLess t.data.toList z.data.toList = r) := ⟨_, Lib.hid rfl⟩
  have hzl : z.data.toList = p ++ [c + 1] := by rw [hz.out]
  have hb2 : Hid (Ky.beg t.data.toList s.data.toList = (!q1 && q2)) := by rw [← hq1.out, ← hq2.out, hzl, hl]; exact Lib.hid (Ky.beg_after c hc k p _)
  have hb3 : Hid (Ky.beg z.data.toList s.data.toList = false) := by rw [hzl, hl]; exact Lib.hid (Ky.after_less c hc k p).2
  have f3 : Op.bytesLess s.toList z.toList = true := by rw [ByteArray.toList_eq, ByteArray.toList_eq, hzl, hl]; exact (Ky.after_less c hc k p).1
  have f1 : Op.bytesLess t.toList s.toList = q1 := by rw [ByteArray.toList_eq, ByteArray.toList_eq]; exact hq1.out
  have f2 : Op.bytesLess t.toList z.toList = q2 := by rw [ByteArray.toList_eq, ByteArray.toList_eq]; exact hq2.out
  have B2 := hide fun W => begins_at t s _ hb2 W
  have B3 := hide fun W => begins_at z s _ hb3 W
  clear hz hq1 hq2 hzl hb2 hb3 hl hc
  clear hx hy hg hbg hA hB hle
  have HB0 : Hid (Below w.heap.size w w) := Lib.hid (Below.refl _ _)
  go_enter Try.func3, Try.ntmps3
  go_wp2_with fail
  refine (lives_any _).mono ?_
  rintro e w1 ⟨rfl, hb⟩
  have HB1 := Lib.hid (HB0.out.trans (hb.mono HB0.out.size))
  clear hb
  go_wp2_with fail
  refine (unhide S1 _ HB1.out).mono ?_
  rintro e w2 ⟨rfl, hb⟩
  have HB2 := Lib.hid (HB1.out.trans (hb.mono HB1.out.size))
  clear hb
  go_wp2_with fail
  refine (unhide J2 _ HB2.out).mono ?_
  rintro e w3 ⟨rfl, hb⟩
  have HB3 := Lib.hid (HB2.out.trans (hb.mono HB2.out.size))
  clear hb
  go_wp2_with fail
  refine (unhide J1 _ HB3.out).mono ?_
  rintro e w4 ⟨rfl, hb⟩
  have HB4 := Lib.hid (HB3.out.trans (hb.mono HB3.out.size))
  clear hb
  go_wp2_with fail
  refine (unhide B1 _).mono ?_
  rintro e w9 ⟨rfl, rfl⟩
  cases g
  all_goals
    go_wp2_with fail
    refine (unhide A1 _).mono ?_
    rintro e w5 ⟨rfl, hb⟩
    have HB5 := Lib.hid (HB4.out.trans (hb.mono HB4.out.size))
    clear hb
    cases q1 <;> cases q2
    all_goals
      go_wp2_with fail
      refine (unhide B2 _).mono ?_
      rintro e w9 ⟨rfl, rfl⟩
      go_wp2_with fail
      refine (unhide B3 _).mono ?_
      rintro e w9 ⟨rfl, rfl⟩
      go_wp2_with fail
      go_ret
      exact ⟨rfl, HB5.out⟩
set_option maxRecDepth 100000 in
set_option maxHeartbeats 8000000 in
theorem heads_4 (ad bd : Option Addr) (na ca nb cb : Nat) (A B : Nat → PV) (s t : ByteArray) (hs : s.size ≤ 140737488355328) (p : List UInt8) (c : UInt8) (k : Nat) (hc : c ≠ 255) (hl : s.data.toList = p ++ c :: Ky.tops k) (hle : nb < na) (w : World) (hA : In w ad na A) (hB : In w bd nb B) :
    Calls Try.prog 3 #[.slice ad na ca, .slice bd nb cb, .string s, .string t] w fun e w' => e = .returned (.bool true) ∧ Below w.heap.size w w' := by
  obtain ⟨x, hx⟩ : ∃ t, Hid (keyS A na = t) := ⟨_, Lib.hid rfl⟩
  obtain ⟨y, hy⟩ : ∃ t, Hid (keyS B nb = t) := ⟨_, Lib.hid rfl⟩
  obtain ⟨g, hg⟩ : ∃ r, Hid (sameB A B na na = r) := ⟨_, Lib.hid rfl⟩
  have hbg : Hid (Ky.beg y.data.toList x.data.toList = false) := by
    have := heads_eq hA hB
    rw [hg.out] at this
    rw [← hx.out, ← hy.out]
    rw [decide_eq_false (by omega), Bool.false_and] at this
    exact Lib.hid this
  have J1 := hide fun W hb => join_at hA ca x hx W hb
  have J2 := hide fun W hb => join_at hB cb y hy W hb
  have hle2 : ¬ (na : Int) ≤ (nb : Int) := by omega
  have B1 := hide fun W => begins_at y x _ hbg W
  obtain ⟨z, hz⟩ : ∃ z : ByteArray, Hid (z = ⟨(p ++ [c + 1]).toArray⟩) := ⟨_, Lib.hid rfl⟩
  have A1 := hide fun W => after_some s p c k hc hl hs W
  rw [← hz.out] at A1
  obtain ⟨q1, hq1⟩ : ∃ r, Hid (Op.bytesLess t.data.toList s.data.toList = r) := ⟨_, Lib.hid rfl⟩
  obtain ⟨q2, hq2⟩ : ∃ r, Hid (Op.bytesLess t.data.toList z.data.toList = r) := ⟨_, Lib.hid rfl⟩
  have hzl : z.data.toList = p ++ [c + 1] := by rw [hz.out]
  have hb2 : Hid (Ky.beg t.data.toList s.data.toList = (!q1 && q2)) := by rw [← hq1.out, ← hq2.out, hzl, hl]; exact Lib.hid (Ky.beg_after c hc k p _)
  have hb3 : Hid (Ky.beg z.data.toList s.data.toList = false) := by rw [hzl, hl]; exact Lib.hid (Ky.after_less c hc k p).2
  have f3 : Op.bytesLess s.toList z.toList = true := by rw [ByteArray.toList_eq, ByteArray.toList_eq, hzl, hl]; exact (Ky.after_less c hc k p).1
  have f1 : Op.bytesLess t.toList s.toList = q1 := by rw [ByteArray.toList_eq, ByteArray.toList_eq]; exact hq1.out
  have f2 : Op.bytesLess t.toList z.toList = q2 := by rw [ByteArray.toList_eq, ByteArray.toList_eq]; exact hq2.out
  have B2 := hide fun W => begins_at t s _ hb2 W
  have B3 := hide fun W => begins_at z s _ hb3 W
  clear hz hq1 hq2 hzl hb2 hb3 hl hc
  clear hx hy hg hbg hA hB hle
  have HB0 : Hid (Below w.heap.size w w) := Lib.hid (Below.refl _ _)
  go_enter Try.func3, Try.ntmps3
  go_wp2_with fail
  refine (lives_any _).mono ?_
  rintro e w1 ⟨rfl, hb⟩
  have HB1 := Lib.hid (HB0.out.trans (hb.mono HB0.out.size))
  clear hb
  go_wp2_with fail
  refine (unhide J2 _ HB1.out).mono ?_
  rintro e w2 ⟨rfl, hb⟩
  have HB2 := Lib.hid (HB1.out.trans (hb.mono HB1.out.size))
  clear hb
  go_wp2_with fail
  refine (unhide J1 _ HB2.out).mono ?_
  rintro e w3 ⟨rfl, hb⟩
  have HB3 := Lib.hid (HB2.out.trans (hb.mono HB2.out.size))
  clear hb
  go_wp2_with fail
  refine (unhide B1 _).mono ?_
  rintro e w9 ⟨rfl, rfl⟩
  go_wp2_with fail
  refine (unhide A1 _).mono ?_
  rintro e w4 ⟨rfl, hb⟩
  have HB4 := Lib.hid (HB3.out.trans (hb.mono HB3.out.size))
  clear hb
  cases q1 <;> cases q2
  all_goals
    go_wp2_with fail
    refine (unhide B2 _).mono ?_
    rintro e w9 ⟨rfl, rfl⟩
    go_wp2_with fail
    refine (unhide B3 _).mono ?_
    rintro e w9 ⟨rfl, rfl⟩
    go_wp2_with fail
    go_ret
    exact ⟨rfl, HB4.out⟩
theorem heads_law (ad bd : Option Addr) (na ca nb cb : Nat) (A B : Nat → PV) (s t : ByteArray) (hcb : nb ≤ cb) (hs : s.size ≤ 140737488355328) (w : World) (hA : In w ad na A) (hB : In w bd nb B) :
    Calls Try.prog 3 #[.slice ad na ca, .slice bd nb cb, .string s, .string t] w fun e w' => e = .returned (.bool true) ∧ Below w.heap.size w w' := by
  rcases tops_or s.data.toList with ⟨k, hl⟩ | ⟨p, c, k, hc, hl⟩ <;> rcases Nat.lt_or_ge nb na with h | h
  · exact heads_2 ad bd na ca nb cb A B s t hs k hl h w hA hB
  · exact heads_1 ad bd na ca nb cb A B s t hcb hs k hl h w hA hB
  · exact heads_4 ad bd na ca nb cb A B s t hs p c k hc hl h w hA hB
  · exact heads_3 ad bd na ca nb cb A B s t hcb hs p c k hc hl h w hA hB
end Go.Proofs.Ytfgkgehlokabgaa
