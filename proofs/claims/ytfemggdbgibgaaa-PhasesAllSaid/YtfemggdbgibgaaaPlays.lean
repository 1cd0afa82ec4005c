/-
  Walks over statements of layer 22: fixed, PhasesPlays.
-/
import Derived.Test.YtfemggdbgibgaaaTable
namespace Go.Proofs.Ytfemggdbgibgaaa
open Go.RowKit

set_option maxRecDepth 100000 in
set_option maxHeartbeats 2000000 in
theorem fixed_any (w : World) :
    Calls Try.prog 6 #[] w fun e w' => e = .returned (.bool true) ∧ Below w.heap.size w w' := by
  go_enter Try.func6, Try.ntmps6
  go_wp2_with fail
  refine (step_any _ _ _ _).mono ?_
  rintro e w1 ⟨rfl, hb⟩
  rw [show (stepMo 1 1 1).val = mv true 1 1 0 1 true true 0 from rfl]
  have HB := Lib.hid hb
  clear hb
  go_wp2_with fail
  refine (step_any _ _ _ _).mono ?_
  rintro e w2 ⟨rfl, hb⟩
  rw [show (stepMo 9 7 8).val = mv false 9 7 0 0 false false (-1) from rfl]
  have HB2 := Lib.hid ((Below.alloc_on HB.out rfl _).trans (hb.mono (Below.alloc_on HB.out rfl _).size))
  clear hb HB
  go_wp2_with fail
  refine (name_any _ _).mono ?_
  rintro e w3 ⟨rfl, rfl⟩
  rw [show nameB 2 = ⟨#[112, 97, 114, 107, 101, 100]⟩ from by decide]
  go_wp2_with fail
  refine (isgood_any _ _ _).mono ?_
  rintro e w4 ⟨rfl, hb⟩
  rw [show goodB 2 3 = true from by decide]
  go_wp2
  go_ret
  exact ⟨rfl, HB2.out.trans (hb.mono HB2.out.size)⟩

set_option maxRecDepth 100000 in
set_option maxHeartbeats 2000000 in
theorem plays_law (p a x : Int) (w : World) :
    Calls Try.prog 4 #[.int .i64 p, .int .i64 a, .int .i64 x] w fun e w' => e = .returned (.bool true) ∧ Below w.heap.size w w' := by
  obtain ⟨m, hm⟩ : ∃ m, Hid (stepMo p a x = m) := ⟨_, Lib.hid rfl⟩
  obtain ⟨g, hg⟩ : ∃ g, Hid (goodB p a = g) := ⟨_, Lib.hid rfl⟩
  obtain ⟨o, ho⟩ : ∃ o, Hid (openB p = o) := ⟨_, Lib.hid rfl⟩
  obtain ⟨r, hr⟩ : ∃ r, Hid (rankN p = r) := ⟨_, Lib.hid rfl⟩
  obtain ⟨n, hn⟩ : ∃ n, Hid (nameB p = n) := ⟨_, Lib.hid rfl⟩
  obtain ⟨t, mp, ma, post, send, att, tim, smp⟩ := m
  go_enter Try.func4, Try.ntmps4
  go_wp2_with fail
  refine (fixed_any _).mono ?_
  rintro e w1 ⟨rfl, hb⟩
  have HB1 := Lib.hid hb
  clear hb
  go_wp2_with fail
  refine (step_any _ _ _ _).mono ?_
  rintro e w2 ⟨rfl, hb⟩
  rw [hm.out]
  have HB2 := Lib.hid (HB1.out.trans (hb.mono HB1.out.size))
  clear hb HB1
  go_wp2_with fail
  refine (stepr_any _ _ _ _).mono ?_
  rintro e w3 ⟨rfl, hb⟩
  rw [hm.out]
  have HB3 := Lib.hid (HB2.out.trans (hb.mono HB2.out.size))
  clear hb HB2
  go_wp2_with fail
  refine (isgood_any _ _ _).mono ?_
  rintro e w4 ⟨rfl, hb⟩
  rw [hg.out]
  have HB4 := Lib.hid (HB3.out.trans (hb.mono HB3.out.size))
  clear hb HB3
  go_wp2_with fail
  refine (goodr_any _ _ _).mono ?_
  rintro e w4' ⟨rfl, rfl⟩
  rw [hg.out]
  go_wp2_with fail
  refine (open_any _ _).mono ?_
  rintro e w4' ⟨rfl, rfl⟩
  rw [ho.out]
  go_wp2_with fail
  refine (openr_any _ _).mono ?_
  rintro e w4' ⟨rfl, rfl⟩
  rw [ho.out]
  go_wp2_with fail
  refine (rank_any _ _).mono ?_
  rintro e w4' ⟨rfl, rfl⟩
  rw [hr.out]
  go_wp2_with fail
  refine (rankr_any _ _).mono ?_
  rintro e w4' ⟨rfl, rfl⟩
  rw [hr.out]
  go_wp2_with fail
  refine (name_any _ _).mono ?_
  rintro e w5 ⟨rfl, rfl⟩
  rw [hn.out]
  go_wp2_with fail
  refine (namer_any _ _).mono ?_
  rintro e w6 ⟨rfl, hb⟩
  rw [hn.out]
  go_wp2
  go_ret
  exact ⟨rfl, HB4.out.trans (hb.mono HB4.out.size)⟩
end Go.Proofs.Ytfemggdbgibgaaa
