/-
  Walks over statements of layer 22: PhasesWays.
-/
import Derived.Test.YtfemggdbgibgaaaPlays
import Derived.Test.YtfemggdbgibgaaaKind
import Derived.Test.YtfemggdbgibgaaaMoves
import Derived.Deep.LoopGhost
namespace Go.Proofs.Ytfemggdbgibgaaa
open Go.RowKit

/-- What holds between two rounds: the pair, the posts; queries (as many as resolves), voids. -/
def Inv (p a po q v : Int) (k : Nat) : Prop :=
  ((p = 1 ∧ a = 1 ∧ po = 0) ∨ (p = 2 ∧ a = 0 ∧ po = 0) ∨ (p = 2 ∧ a = 2 ∧ po = 0 ∧ v < q) ∨ (p = 2 ∧ a = 3 ∧ po = 0) ∨ (p = 3 ∧ a = 0 ∧ po = 1) ∨ (p = 4 ∧ a = 0 ∧ po = 1)) ∧ 0 ≤ v ∧ v ≤ q ∧ q ≤ k
theorem below_drewN {B : Nat} {a w : World} (h : Below B a w) (n : Nat) : Below B a (w.drewN n) := ⟨h.os, h.tape, h.output, h.size, h.block⟩
theorem Inv.next {p a po q v : Int} {k : Nat} (h : Inv p a po q v k) : Inv p a po q v (k + 1) := ⟨h.1, h.2.1, h.2.2.1, by have := h.2.2.2; omega⟩
theorem Inv.good {p a po q v : Int} {k : Nat} (h : Inv p a po q v k) : goodB p a = true := goodB_yes (by have := h.1; omega)
theorem Inv.post {p a po q v : Int} {k : Nat} (h : Inv p a po q v k) : 0 ≤ po ∧ po ≤ 1 := by have := h.1; omega
set_option maxRecDepth 100000 in
set_option maxHeartbeats 4000000 in
theorem ways_zero (ad : Option Addr) (cap : Nat) (w : World) :
    Calls Try.prog 5 #[.slice ad 0 cap] w fun e w' => e = .returned (.bool true) ∧ Below w.heap.size w w' := by
  go_enter Try.func5, Try.ntmps5
  go_wp2_with fail
  refine (fixed_any _).mono ?_
  rintro e w1 ⟨rfl, hb1⟩
  have HB1 := Lib.hid hb1
  clear hb1
  go_wp2
  go_loopw [17] (fun i wr => i = .int .i64 0 ∧ Hid (Below w.heap.size w wr)) (fun _ _ => 0)
  case atStart => exact ⟨rfl, HB1⟩
  case round =>
    obtain ⟨rfl, HB⟩ := hrel
    go_wp2
    go_ret
    exact ⟨rfl, HB.out⟩
set_option maxRecDepth 100000 in
set_option maxHeartbeats 40000000 in
theorem ways_some (b off n cap : Nat) (V : Nat → Int) (hn : n ≤ 9223372036854775807) (w : World) (hb : b < w.heap.size) (hV : ∀ i, i < n → w.cell? ⟨b, off + i, none⟩ = some (.int .i64 (V i))) :
    Calls Try.prog 5 #[.slice (some ⟨b, off, none⟩) n cap] w fun e w' => e = .returned (.bool true) ∧ Below w.heap.size w w' := by
  have HV := Lib.hid hV
  clear hV
  go_enter Try.func5, Try.ntmps5
  go_wp2_with fail
  refine (fixed_any _).mono ?_
  rintro e w1 ⟨rfl, hb1⟩
  have HB1 := Lib.hid hb1
  clear hb1
  go_wp2
  go_loopw [3, 4, 5, 6, 7, 8, 17] (fun ph ak po qu vo re i wr => ∃ (k : Nat) (p a c q v : Int), k ≤ n ∧ ph = .int .i64 p ∧ ak = .int .i64 a ∧ po = .int .i64 c ∧ qu = .int .i64 q ∧ vo = .int .i64 v ∧ re = .int .i64 q ∧ i = .int .i64 k ∧ Hid (Inv p a c q v k) ∧ Hid (Below w.heap.size w wr)) (fun _ _ _ _ _ _ i _ => n - (intOf i).toNat)
  case atStart => exact ⟨0, 1, 1, 0, 0, 0, by omega, rfl, rfl, rfl, rfl, rfl, rfl, rfl, Lib.hid ⟨Or.inl ⟨rfl, rfl, rfl⟩, by omega, by omega, by omega⟩, HB1⟩
  case round =>
    obtain ⟨k, p, a, c, q, v, hk, rfl, rfl, rfl, rfl, rfl, rfl, rfl, HI, HB⟩ := hrel
    by_cases hkn : k < n
    · have hkn2 : (k : Int) < (n : Int) := by omega
      have hcell : wr.cell? ⟨b, off + k, none⟩ = some (.int .i64 (V k)) := by rw [HB.out.cell hb]; exact HV.out k hkn
      generalize V k = x at hcell
      go_wp2_with fail
      refine (kind_any _ _).mono ?_
      rintro e w1' ⟨⟨ev, he1, he8, rfl⟩, rfl⟩
      clear hcell
      go_wp2_with fail
      refine (step_any _ _ _ _).mono ?_
      rintro e w2 ⟨rfl, hb2⟩
      have HB2 := Lib.hid (HB.out.trans (hb2.mono HB.out.size))
      clear hb2 HB
      by_cases hidle : stepMo p a ev = moNone p a
      · rw [show (stepMo p a ev).val = mv false p a 0 0 false false (-1) from by rw [hidle]; rfl]
        clear hidle
        obtain ⟨r, hr⟩ : ∃ r, Hid (rankN p = r) := ⟨_, Lib.hid rfl⟩
        have HGd := Lib.hid HI.out.good
        go_wp2_with fail
        refine (isgood_any _ _ _).mono ?_
        rintro e w3 ⟨rfl, hb2⟩
        rw [HGd.out]
        have HB3 := Lib.hid ((Below.alloc_on HB2.out rfl _).trans (hb2.mono (Below.alloc_on HB2.out rfl _).size))
        have HR := Lib.hid ((Row.new w2 (mrow false p a 0 0 false false (-1)) 27).on hb2)
        obtain ⟨l0, c0, c1, c2, c3, c4, c5, c6, c7, f0⟩ := mcells HR.out
        clear hb2
        go_wp2_with fail
        refine (rank_any _ _).mono ?_
        rintro e w4' ⟨rfl, rfl⟩
        rw [hr.out]
        go_wp2_with fail
        refine (rank_any _ _).mono ?_
        rintro e w4' ⟨rfl, rfl⟩
        rw [hr.out]
        go_wp2
        exact ⟨⟨k + 1, p, a, c, q, v, by omega, rfl, rfl, rfl, rfl, rfl, rfl, rfl, Lib.hid HI.out.next, HB3⟩, by show n - ((k : Int) + 1).toNat < n - ((k : Int)).toNat; omega⟩
      · obtain ⟨hpair, hv0, hvq, hqk⟩ := HI.out
        have hev : ev = 1 ∨ ev = 2 ∨ ev = 3 ∨ ev = 4 ∨ ev = 5 ∨ ev = 6 ∨ ev = 7 ∨ ev = 8 := by omega
        clear HI he1 he8
        rcases hpair with ⟨rfl, rfl, rfl⟩ | ⟨rfl, rfl, rfl⟩ | ⟨rfl, rfl, rfl, hvq2⟩ | ⟨rfl, rfl, rfl⟩ | ⟨rfl, rfl, rfl⟩ | ⟨rfl, rfl, rfl⟩
        · rcases hev with rfl | rfl | rfl | rfl | rfl | rfl | rfl | rfl
          · rw [show (stepMo 1 1 1).val = mv true 1 1 0 1 true true 0 from rfl]
            clear hidle
            go_wp2_with fail
            refine (isgood_any _ _ _).mono ?_
            rintro e w3 ⟨rfl, hb2⟩
            rw [show goodB 1 1 = true from by decide]
            have HB3 := Lib.hid ((Below.alloc_on HB2.out rfl _).trans (hb2.mono (Below.alloc_on HB2.out rfl _).size))
            have HR := Lib.hid ((Row.new w2 (mrow true 1 1 0 1 true true 0) 27).on hb2)
            obtain ⟨l0, c0, c1, c2, c3, c4, c5, c6, c7, f0⟩ := mcells HR.out
            clear hb2 HB2
            go_wp2_with fail
            refine (rank_any _ _).mono ?_
            rintro e w4' ⟨rfl, rfl⟩
            rw [show rankN 1 = 1 from by decide]
            go_wp2_with fail
            refine (rank_any _ _).mono ?_
            rintro e w4' ⟨rfl, rfl⟩
            rw [show rankN 1 = 1 from by decide]
            go_wp2_with fail
            refine (open_any _ _).mono ?_
            rintro e w4' ⟨rfl, rfl⟩
            rw [show openB 1 = true from by decide]
            go_wp2_with fail
            refine (moves_111 _).mono ?_
            rintro e w5 ⟨rfl, hb2⟩
            have HB5 := Lib.hid (HB3.out.trans (hb2.mono HB3.out.size))
            have HR5 := Lib.hid (HR.out.on hb2)
            clear hb2 HB3 HR l0 c0 c1 c2 c3 c4 c5 c6 c7 f0
            obtain ⟨l0, c0, c1, c2, c3, c4, c5, c6, c7, f0⟩ := mcells HR5.out
            clear HR5
            go_wp2
            go_quiet (fail)
            go_wp2
            exact ⟨⟨k + 1, 1, 1, 0, q, v, by omega, rfl, rfl, rfl, rfl, rfl, rfl, rfl, Lib.hid ⟨by omega, by omega, by omega, by omega⟩, Lib.hid (below_drewN HB5.out _)⟩, by show n - ((k : Int) + 1).toNat < n - ((k : Int)).toNat; omega⟩
          · rw [show (stepMo 1 1 2).val = mv true 2 0 0 0 false false 0 from rfl]
            clear hidle
            go_wp2_with fail
            refine (isgood_any _ _ _).mono ?_
            rintro e w3 ⟨rfl, hb2⟩
            rw [show goodB 2 0 = true from by decide]
            have HB3 := Lib.hid ((Below.alloc_on HB2.out rfl _).trans (hb2.mono (Below.alloc_on HB2.out rfl _).size))
            have HR := Lib.hid ((Row.new w2 (mrow true 2 0 0 0 false false 0) 27).on hb2)
            obtain ⟨l0, c0, c1, c2, c3, c4, c5, c6, c7, f0⟩ := mcells HR.out
            clear hb2 HB2
            go_wp2_with fail
            refine (rank_any _ _).mono ?_
            rintro e w4' ⟨rfl, rfl⟩
            rw [show rankN 2 = 2 from by decide]
            go_wp2_with fail
            refine (rank_any _ _).mono ?_
            rintro e w4' ⟨rfl, rfl⟩
            rw [show rankN 1 = 1 from by decide]
            go_wp2_with fail
            refine (open_any _ _).mono ?_
            rintro e w4' ⟨rfl, rfl⟩
            rw [show openB 1 = true from by decide]
            go_wp2_with fail
            refine (moves_112 _).mono ?_
            rintro e w5 ⟨rfl, hb2⟩
            have HB5 := Lib.hid (HB3.out.trans (hb2.mono HB3.out.size))
            have HR5 := Lib.hid (HR.out.on hb2)
            clear hb2 HB3 HR l0 c0 c1 c2 c3 c4 c5 c6 c7 f0
            obtain ⟨l0, c0, c1, c2, c3, c4, c5, c6, c7, f0⟩ := mcells HR5.out
            clear HR5
            go_wp2
            go_quiet (fail)
            go_wp2
            exact ⟨⟨k + 1, 2, 0, 0, q, v, by omega, rfl, rfl, rfl, rfl, rfl, rfl, rfl, Lib.hid ⟨by omega, by omega, by omega, by omega⟩, Lib.hid (below_drewN HB5.out _)⟩, by show n - ((k : Int) + 1).toNat < n - ((k : Int)).toNat; omega⟩
          · exact absurd (show stepMo 1 1 3 = moNone 1 1 from by decide) hidle
          · rw [show (stepMo 1 1 4).val = mv true 3 0 1 0 false false 2 from rfl]
            clear hidle
            go_wp2_with fail
            refine (isgood_any _ _ _).mono ?_
            rintro e w3 ⟨rfl, hb2⟩
            rw [show goodB 3 0 = true from by decide]
            have HB3 := Lib.hid ((Below.alloc_on HB2.out rfl _).trans (hb2.mono (Below.alloc_on HB2.out rfl _).size))
            have HR := Lib.hid ((Row.new w2 (mrow true 3 0 1 0 false false 2) 27).on hb2)
            obtain ⟨l0, c0, c1, c2, c3, c4, c5, c6, c7, f0⟩ := mcells HR.out
            clear hb2 HB2
            go_wp2_with fail
            refine (rank_any _ _).mono ?_
            rintro e w4' ⟨rfl, rfl⟩
            rw [show rankN 3 = 3 from by decide]
            go_wp2_with fail
            refine (rank_any _ _).mono ?_
            rintro e w4' ⟨rfl, rfl⟩
            rw [show rankN 1 = 1 from by decide]
            go_wp2_with fail
            refine (open_any _ _).mono ?_
            rintro e w4' ⟨rfl, rfl⟩
            rw [show openB 1 = true from by decide]
            go_wp2_with fail
            refine (moves_114 _).mono ?_
            rintro e w5 ⟨rfl, hb2⟩
            have HB5 := Lib.hid (HB3.out.trans (hb2.mono HB3.out.size))
            have HR5 := Lib.hid (HR.out.on hb2)
            clear hb2 HB3 HR l0 c0 c1 c2 c3 c4 c5 c6 c7 f0
            obtain ⟨l0, c0, c1, c2, c3, c4, c5, c6, c7, f0⟩ := mcells HR5.out
            clear HR5
            go_wp2
            go_quiet (fail)
            go_wp2
            exact ⟨⟨k + 1, 3, 0, 1, q, v, by omega, rfl, rfl, rfl, rfl, rfl, rfl, rfl, Lib.hid ⟨by omega, by omega, by omega, by omega⟩, Lib.hid (below_drewN HB5.out _)⟩, by show n - ((k : Int) + 1).toNat < n - ((k : Int)).toNat; omega⟩
          · rw [show (stepMo 1 1 5).val = mv true 4 0 2 0 false false 2 from rfl]
            clear hidle
            go_wp2_with fail
            refine (isgood_any _ _ _).mono ?_
            rintro e w3 ⟨rfl, hb2⟩
            rw [show goodB 4 0 = true from by decide]
            have HB3 := Lib.hid ((Below.alloc_on HB2.out rfl _).trans (hb2.mono (Below.alloc_on HB2.out rfl _).size))
            have HR := Lib.hid ((Row.new w2 (mrow true 4 0 2 0 false false 2) 27).on hb2)
            obtain ⟨l0, c0, c1, c2, c3, c4, c5, c6, c7, f0⟩ := mcells HR.out
            clear hb2 HB2
            go_wp2_with fail
            refine (rank_any _ _).mono ?_
            rintro e w4' ⟨rfl, rfl⟩
            rw [show rankN 4 = 3 from by decide]
            go_wp2_with fail
            refine (rank_any _ _).mono ?_
            rintro e w4' ⟨rfl, rfl⟩
            rw [show rankN 1 = 1 from by decide]
            go_wp2_with fail
            refine (open_any _ _).mono ?_
            rintro e w4' ⟨rfl, rfl⟩
            rw [show openB 1 = true from by decide]
            go_wp2_with fail
            refine (moves_115 _).mono ?_
            rintro e w5 ⟨rfl, hb2⟩
            have HB5 := Lib.hid (HB3.out.trans (hb2.mono HB3.out.size))
            have HR5 := Lib.hid (HR.out.on hb2)
            clear hb2 HB3 HR l0 c0 c1 c2 c3 c4 c5 c6 c7 f0
            obtain ⟨l0, c0, c1, c2, c3, c4, c5, c6, c7, f0⟩ := mcells HR5.out
            clear HR5
            go_wp2
            go_quiet (fail)
            go_wp2
            exact ⟨⟨k + 1, 4, 0, 1, q, v, by omega, rfl, rfl, rfl, rfl, rfl, rfl, rfl, Lib.hid ⟨by omega, by omega, by omega, by omega⟩, Lib.hid (below_drewN HB5.out _)⟩, by show n - ((k : Int) + 1).toNat < n - ((k : Int)).toNat; omega⟩
          · rw [show (stepMo 1 1 6).val = mv true 4 0 2 0 false false 2 from rfl]
            clear hidle
            go_wp2_with fail
            refine (isgood_any _ _ _).mono ?_
            rintro e w3 ⟨rfl, hb2⟩
            rw [show goodB 4 0 = true from by decide]
            have HB3 := Lib.hid ((Below.alloc_on HB2.out rfl _).trans (hb2.mono (Below.alloc_on HB2.out rfl _).size))
            have HR := Lib.hid ((Row.new w2 (mrow true 4 0 2 0 false false 2) 27).on hb2)
            obtain ⟨l0, c0, c1, c2, c3, c4, c5, c6, c7, f0⟩ := mcells HR.out
            clear hb2 HB2
            go_wp2_with fail
            refine (rank_any _ _).mono ?_
            rintro e w4' ⟨rfl, rfl⟩
            rw [show rankN 4 = 3 from by decide]
            go_wp2_with fail
            refine (rank_any _ _).mono ?_
            rintro e w4' ⟨rfl, rfl⟩
            rw [show rankN 1 = 1 from by decide]
            go_wp2_with fail
            refine (open_any _ _).mono ?_
            rintro e w4' ⟨rfl, rfl⟩
            rw [show openB 1 = true from by decide]
            go_wp2_with fail
            refine (moves_116 _).mono ?_
            rintro e w5 ⟨rfl, hb2⟩
            have HB5 := Lib.hid (HB3.out.trans (hb2.mono HB3.out.size))
            have HR5 := Lib.hid (HR.out.on hb2)
            clear hb2 HB3 HR l0 c0 c1 c2 c3 c4 c5 c6 c7 f0
            obtain ⟨l0, c0, c1, c2, c3, c4, c5, c6, c7, f0⟩ := mcells HR5.out
            clear HR5
            go_wp2
            go_quiet (fail)
            go_wp2
            exact ⟨⟨k + 1, 4, 0, 1, q, v, by omega, rfl, rfl, rfl, rfl, rfl, rfl, rfl, Lib.hid ⟨by omega, by omega, by omega, by omega⟩, Lib.hid (below_drewN HB5.out _)⟩, by show n - ((k : Int) + 1).toNat < n - ((k : Int)).toNat; omega⟩
          · exact absurd (show stepMo 1 1 7 = moNone 1 1 from by decide) hidle
          · rw [show (stepMo 1 1 8).val = mv true 1 1 0 0 false false 1 from rfl]
            clear hidle
            go_wp2_with fail
            refine (isgood_any _ _ _).mono ?_
            rintro e w3 ⟨rfl, hb2⟩
            rw [show goodB 1 1 = true from by decide]
            have HB3 := Lib.hid ((Below.alloc_on HB2.out rfl _).trans (hb2.mono (Below.alloc_on HB2.out rfl _).size))
            have HR := Lib.hid ((Row.new w2 (mrow true 1 1 0 0 false false 1) 27).on hb2)
            obtain ⟨l0, c0, c1, c2, c3, c4, c5, c6, c7, f0⟩ := mcells HR.out
            clear hb2 HB2
            go_wp2_with fail
            refine (rank_any _ _).mono ?_
            rintro e w4' ⟨rfl, rfl⟩
            rw [show rankN 1 = 1 from by decide]
            go_wp2_with fail
            refine (rank_any _ _).mono ?_
            rintro e w4' ⟨rfl, rfl⟩
            rw [show rankN 1 = 1 from by decide]
            go_wp2_with fail
            refine (open_any _ _).mono ?_
            rintro e w4' ⟨rfl, rfl⟩
            rw [show openB 1 = true from by decide]
            go_wp2_with fail
            refine (moves_118 _).mono ?_
            rintro e w5 ⟨rfl, hb2⟩
            have HB5 := Lib.hid (HB3.out.trans (hb2.mono HB3.out.size))
            have HR5 := Lib.hid (HR.out.on hb2)
            clear hb2 HB3 HR l0 c0 c1 c2 c3 c4 c5 c6 c7 f0
            obtain ⟨l0, c0, c1, c2, c3, c4, c5, c6, c7, f0⟩ := mcells HR5.out
            clear HR5
            go_wp2
            go_quiet (fail)
            go_wp2
            exact ⟨⟨k + 1, 1, 1, 0, q, v, by omega, rfl, rfl, rfl, rfl, rfl, rfl, rfl, Lib.hid ⟨by omega, by omega, by omega, by omega⟩, Lib.hid (below_drewN HB5.out _)⟩, by show n - ((k : Int) + 1).toNat < n - ((k : Int)).toNat; omega⟩
        · rcases hev with rfl | rfl | rfl | rfl | rfl | rfl | rfl | rfl
          · exact absurd (show stepMo 2 0 1 = moNone 2 0 from by decide) hidle
          · exact absurd (show stepMo 2 0 2 = moNone 2 0 from by decide) hidle
          · rw [show (stepMo 2 0 3).val = mv true 2 2 0 2 false true (-1) from rfl]
            clear hidle
            go_wp2_with fail
            refine (isgood_any _ _ _).mono ?_
            rintro e w3 ⟨rfl, hb2⟩
            rw [show goodB 2 2 = true from by decide]
            have HB3 := Lib.hid ((Below.alloc_on HB2.out rfl _).trans (hb2.mono (Below.alloc_on HB2.out rfl _).size))
            have HR := Lib.hid ((Row.new w2 (mrow true 2 2 0 2 false true (-1)) 27).on hb2)
            obtain ⟨l0, c0, c1, c2, c3, c4, c5, c6, c7, f0⟩ := mcells HR.out
            clear hb2 HB2
            go_wp2_with fail
            refine (rank_any _ _).mono ?_
            rintro e w4' ⟨rfl, rfl⟩
            rw [show rankN 2 = 2 from by decide]
            go_wp2_with fail
            refine (rank_any _ _).mono ?_
            rintro e w4' ⟨rfl, rfl⟩
            rw [show rankN 2 = 2 from by decide]
            go_wp2_with fail
            refine (open_any _ _).mono ?_
            rintro e w4' ⟨rfl, rfl⟩
            rw [show openB 2 = true from by decide]
            go_wp2_with fail
            refine (moves_203 _).mono ?_
            rintro e w5 ⟨rfl, hb2⟩
            have HB5 := Lib.hid (HB3.out.trans (hb2.mono HB3.out.size))
            have HR5 := Lib.hid (HR.out.on hb2)
            clear hb2 HB3 HR l0 c0 c1 c2 c3 c4 c5 c6 c7 f0
            obtain ⟨l0, c0, c1, c2, c3, c4, c5, c6, c7, f0⟩ := mcells HR5.out
            clear HR5
            go_wp2
            go_quiet (fail)
            go_wp2
            exact ⟨⟨k + 1, 2, 2, 0, q + 1, v, by omega, rfl, rfl, rfl, rfl, rfl, rfl, rfl, Lib.hid ⟨by omega, by omega, by omega, by omega⟩, Lib.hid (below_drewN HB5.out _)⟩, by show n - ((k : Int) + 1).toNat < n - ((k : Int)).toNat; omega⟩
          · rw [show (stepMo 2 0 4).val = mv true 3 0 1 0 false false 2 from rfl]
            clear hidle
            go_wp2_with fail
            refine (isgood_any _ _ _).mono ?_
            rintro e w3 ⟨rfl, hb2⟩
            rw [show goodB 3 0 = true from by decide]
            have HB3 := Lib.hid ((Below.alloc_on HB2.out rfl _).trans (hb2.mono (Below.alloc_on HB2.out rfl _).size))
            have HR := Lib.hid ((Row.new w2 (mrow true 3 0 1 0 false false 2) 27).on hb2)
            obtain ⟨l0, c0, c1, c2, c3, c4, c5, c6, c7, f0⟩ := mcells HR.out
            clear hb2 HB2
            go_wp2_with fail
            refine (rank_any _ _).mono ?_
            rintro e w4' ⟨rfl, rfl⟩
            rw [show rankN 3 = 3 from by decide]
            go_wp2_with fail
            refine (rank_any _ _).mono ?_
            rintro e w4' ⟨rfl, rfl⟩
            rw [show rankN 2 = 2 from by decide]
            go_wp2_with fail
            refine (open_any _ _).mono ?_
            rintro e w4' ⟨rfl, rfl⟩
            rw [show openB 2 = true from by decide]
            go_wp2_with fail
            refine (moves_204 _).mono ?_
            rintro e w5 ⟨rfl, hb2⟩
            have HB5 := Lib.hid (HB3.out.trans (hb2.mono HB3.out.size))
            have HR5 := Lib.hid (HR.out.on hb2)
            clear hb2 HB3 HR l0 c0 c1 c2 c3 c4 c5 c6 c7 f0
            obtain ⟨l0, c0, c1, c2, c3, c4, c5, c6, c7, f0⟩ := mcells HR5.out
            clear HR5
            go_wp2
            go_quiet (fail)
            go_wp2
            exact ⟨⟨k + 1, 3, 0, 1, q, v, by omega, rfl, rfl, rfl, rfl, rfl, rfl, rfl, Lib.hid ⟨by omega, by omega, by omega, by omega⟩, Lib.hid (below_drewN HB5.out _)⟩, by show n - ((k : Int) + 1).toNat < n - ((k : Int)).toNat; omega⟩
          · rw [show (stepMo 2 0 5).val = mv true 4 0 2 0 false false 2 from rfl]
            clear hidle
            go_wp2_with fail
            refine (isgood_any _ _ _).mono ?_
            rintro e w3 ⟨rfl, hb2⟩
            rw [show goodB 4 0 = true from by decide]
            have HB3 := Lib.hid ((Below.alloc_on HB2.out rfl _).trans (hb2.mono (Below.alloc_on HB2.out rfl _).size))
            have HR := Lib.hid ((Row.new w2 (mrow true 4 0 2 0 false false 2) 27).on hb2)
            obtain ⟨l0, c0, c1, c2, c3, c4, c5, c6, c7, f0⟩ := mcells HR.out
            clear hb2 HB2
            go_wp2_with fail
            refine (rank_any _ _).mono ?_
            rintro e w4' ⟨rfl, rfl⟩
            rw [show rankN 4 = 3 from by decide]
            go_wp2_with fail
            refine (rank_any _ _).mono ?_
            rintro e w4' ⟨rfl, rfl⟩
            rw [show rankN 2 = 2 from by decide]
            go_wp2_with fail
            refine (open_any _ _).mono ?_
            rintro e w4' ⟨rfl, rfl⟩
            rw [show openB 2 = true from by decide]
            go_wp2_with fail
            refine (moves_205 _).mono ?_
            rintro e w5 ⟨rfl, hb2⟩
            have HB5 := Lib.hid (HB3.out.trans (hb2.mono HB3.out.size))
            have HR5 := Lib.hid (HR.out.on hb2)
            clear hb2 HB3 HR l0 c0 c1 c2 c3 c4 c5 c6 c7 f0
            obtain ⟨l0, c0, c1, c2, c3, c4, c5, c6, c7, f0⟩ := mcells HR5.out
            clear HR5
            go_wp2
            go_quiet (fail)
            go_wp2
            exact ⟨⟨k + 1, 4, 0, 1, q, v, by omega, rfl, rfl, rfl, rfl, rfl, rfl, rfl, Lib.hid ⟨by omega, by omega, by omega, by omega⟩, Lib.hid (below_drewN HB5.out _)⟩, by show n - ((k : Int) + 1).toNat < n - ((k : Int)).toNat; omega⟩
          · rw [show (stepMo 2 0 6).val = mv true 4 0 2 0 false false 2 from rfl]
            clear hidle
            go_wp2_with fail
            refine (isgood_any _ _ _).mono ?_
            rintro e w3 ⟨rfl, hb2⟩
            rw [show goodB 4 0 = true from by decide]
            have HB3 := Lib.hid ((Below.alloc_on HB2.out rfl _).trans (hb2.mono (Below.alloc_on HB2.out rfl _).size))
            have HR := Lib.hid ((Row.new w2 (mrow true 4 0 2 0 false false 2) 27).on hb2)
            obtain ⟨l0, c0, c1, c2, c3, c4, c5, c6, c7, f0⟩ := mcells HR.out
            clear hb2 HB2
            go_wp2_with fail
            refine (rank_any _ _).mono ?_
            rintro e w4' ⟨rfl, rfl⟩
            rw [show rankN 4 = 3 from by decide]
            go_wp2_with fail
            refine (rank_any _ _).mono ?_
            rintro e w4' ⟨rfl, rfl⟩
            rw [show rankN 2 = 2 from by decide]
            go_wp2_with fail
            refine (open_any _ _).mono ?_
            rintro e w4' ⟨rfl, rfl⟩
            rw [show openB 2 = true from by decide]
            go_wp2_with fail
            refine (moves_206 _).mono ?_
            rintro e w5 ⟨rfl, hb2⟩
            have HB5 := Lib.hid (HB3.out.trans (hb2.mono HB3.out.size))
            have HR5 := Lib.hid (HR.out.on hb2)
            clear hb2 HB3 HR l0 c0 c1 c2 c3 c4 c5 c6 c7 f0
            obtain ⟨l0, c0, c1, c2, c3, c4, c5, c6, c7, f0⟩ := mcells HR5.out
            clear HR5
            go_wp2
            go_quiet (fail)
            go_wp2
            exact ⟨⟨k + 1, 4, 0, 1, q, v, by omega, rfl, rfl, rfl, rfl, rfl, rfl, rfl, Lib.hid ⟨by omega, by omega, by omega, by omega⟩, Lib.hid (below_drewN HB5.out _)⟩, by show n - ((k : Int) + 1).toNat < n - ((k : Int)).toNat; omega⟩
          · exact absurd (show stepMo 2 0 7 = moNone 2 0 from by decide) hidle
          · exact absurd (show stepMo 2 0 8 = moNone 2 0 from by decide) hidle
        · rcases hev with rfl | rfl | rfl | rfl | rfl | rfl | rfl | rfl
          · rw [show (stepMo 2 2 1).val = mv true 2 0 0 0 false false 0 from rfl]
            clear hidle
            go_wp2_with fail
            refine (isgood_any _ _ _).mono ?_
            rintro e w3 ⟨rfl, hb2⟩
            rw [show goodB 2 0 = true from by decide]
            have HB3 := Lib.hid ((Below.alloc_on HB2.out rfl _).trans (hb2.mono (Below.alloc_on HB2.out rfl _).size))
            have HR := Lib.hid ((Row.new w2 (mrow true 2 0 0 0 false false 0) 27).on hb2)
            obtain ⟨l0, c0, c1, c2, c3, c4, c5, c6, c7, f0⟩ := mcells HR.out
            clear hb2 HB2
            go_wp2_with fail
            refine (rank_any _ _).mono ?_
            rintro e w4' ⟨rfl, rfl⟩
            rw [show rankN 2 = 2 from by decide]
            go_wp2_with fail
            refine (rank_any _ _).mono ?_
            rintro e w4' ⟨rfl, rfl⟩
            rw [show rankN 2 = 2 from by decide]
            go_wp2_with fail
            refine (open_any _ _).mono ?_
            rintro e w4' ⟨rfl, rfl⟩
            rw [show openB 2 = true from by decide]
            go_wp2_with fail
            refine (moves_221 _).mono ?_
            rintro e w5 ⟨rfl, hb2⟩
            have HB5 := Lib.hid (HB3.out.trans (hb2.mono HB3.out.size))
            have HR5 := Lib.hid (HR.out.on hb2)
            clear hb2 HB3 HR l0 c0 c1 c2 c3 c4 c5 c6 c7 f0
            obtain ⟨l0, c0, c1, c2, c3, c4, c5, c6, c7, f0⟩ := mcells HR5.out
            clear HR5
            go_wp2
            go_quiet (fail)
            go_wp2
            exact ⟨⟨k + 1, 2, 0, 0, q, v, by omega, rfl, rfl, rfl, rfl, rfl, rfl, rfl, Lib.hid ⟨by omega, by omega, by omega, by omega⟩, Lib.hid (below_drewN HB5.out _)⟩, by show n - ((k : Int) + 1).toNat < n - ((k : Int)).toNat; omega⟩
          · rw [show (stepMo 2 2 2).val = mv true 2 0 0 0 false false 0 from rfl]
            clear hidle
            go_wp2_with fail
            refine (isgood_any _ _ _).mono ?_
            rintro e w3 ⟨rfl, hb2⟩
            rw [show goodB 2 0 = true from by decide]
            have HB3 := Lib.hid ((Below.alloc_on HB2.out rfl _).trans (hb2.mono (Below.alloc_on HB2.out rfl _).size))
            have HR := Lib.hid ((Row.new w2 (mrow true 2 0 0 0 false false 0) 27).on hb2)
            obtain ⟨l0, c0, c1, c2, c3, c4, c5, c6, c7, f0⟩ := mcells HR.out
            clear hb2 HB2
            go_wp2_with fail
            refine (rank_any _ _).mono ?_
            rintro e w4' ⟨rfl, rfl⟩
            rw [show rankN 2 = 2 from by decide]
            go_wp2_with fail
            refine (rank_any _ _).mono ?_
            rintro e w4' ⟨rfl, rfl⟩
            rw [show rankN 2 = 2 from by decide]
            go_wp2_with fail
            refine (open_any _ _).mono ?_
            rintro e w4' ⟨rfl, rfl⟩
            rw [show openB 2 = true from by decide]
            go_wp2_with fail
            refine (moves_222 _).mono ?_
            rintro e w5 ⟨rfl, hb2⟩
            have HB5 := Lib.hid (HB3.out.trans (hb2.mono HB3.out.size))
            have HR5 := Lib.hid (HR.out.on hb2)
            clear hb2 HB3 HR l0 c0 c1 c2 c3 c4 c5 c6 c7 f0
            obtain ⟨l0, c0, c1, c2, c3, c4, c5, c6, c7, f0⟩ := mcells HR5.out
            clear HR5
            go_wp2
            go_quiet (fail)
            go_wp2
            exact ⟨⟨k + 1, 2, 0, 0, q, v, by omega, rfl, rfl, rfl, rfl, rfl, rfl, rfl, Lib.hid ⟨by omega, by omega, by omega, by omega⟩, Lib.hid (below_drewN HB5.out _)⟩, by show n - ((k : Int) + 1).toNat < n - ((k : Int)).toNat; omega⟩
          · exact absurd (show stepMo 2 2 3 = moNone 2 2 from by decide) hidle
          · rw [show (stepMo 2 2 4).val = mv true 3 0 1 0 false false 2 from rfl]
            clear hidle
            go_wp2_with fail
            refine (isgood_any _ _ _).mono ?_
            rintro e w3 ⟨rfl, hb2⟩
            rw [show goodB 3 0 = true from by decide]
            have HB3 := Lib.hid ((Below.alloc_on HB2.out rfl _).trans (hb2.mono (Below.alloc_on HB2.out rfl _).size))
            have HR := Lib.hid ((Row.new w2 (mrow true 3 0 1 0 false false 2) 27).on hb2)
            obtain ⟨l0, c0, c1, c2, c3, c4, c5, c6, c7, f0⟩ := mcells HR.out
            clear hb2 HB2
            go_wp2_with fail
            refine (rank_any _ _).mono ?_
            rintro e w4' ⟨rfl, rfl⟩
            rw [show rankN 3 = 3 from by decide]
            go_wp2_with fail
            refine (rank_any _ _).mono ?_
            rintro e w4' ⟨rfl, rfl⟩
            rw [show rankN 2 = 2 from by decide]
            go_wp2_with fail
            refine (open_any _ _).mono ?_
            rintro e w4' ⟨rfl, rfl⟩
            rw [show openB 2 = true from by decide]
            go_wp2_with fail
            refine (moves_224 _).mono ?_
            rintro e w5 ⟨rfl, hb2⟩
            have HB5 := Lib.hid (HB3.out.trans (hb2.mono HB3.out.size))
            have HR5 := Lib.hid (HR.out.on hb2)
            clear hb2 HB3 HR l0 c0 c1 c2 c3 c4 c5 c6 c7 f0
            obtain ⟨l0, c0, c1, c2, c3, c4, c5, c6, c7, f0⟩ := mcells HR5.out
            clear HR5
            go_wp2
            go_quiet (fail)
            go_wp2
            exact ⟨⟨k + 1, 3, 0, 1, q, v, by omega, rfl, rfl, rfl, rfl, rfl, rfl, rfl, Lib.hid ⟨by omega, by omega, by omega, by omega⟩, Lib.hid (below_drewN HB5.out _)⟩, by show n - ((k : Int) + 1).toNat < n - ((k : Int)).toNat; omega⟩
          · rw [show (stepMo 2 2 5).val = mv true 4 0 2 0 false false 2 from rfl]
            clear hidle
            go_wp2_with fail
            refine (isgood_any _ _ _).mono ?_
            rintro e w3 ⟨rfl, hb2⟩
            rw [show goodB 4 0 = true from by decide]
            have HB3 := Lib.hid ((Below.alloc_on HB2.out rfl _).trans (hb2.mono (Below.alloc_on HB2.out rfl _).size))
            have HR := Lib.hid ((Row.new w2 (mrow true 4 0 2 0 false false 2) 27).on hb2)
            obtain ⟨l0, c0, c1, c2, c3, c4, c5, c6, c7, f0⟩ := mcells HR.out
            clear hb2 HB2
            go_wp2_with fail
            refine (rank_any _ _).mono ?_
            rintro e w4' ⟨rfl, rfl⟩
            rw [show rankN 4 = 3 from by decide]
            go_wp2_with fail
            refine (rank_any _ _).mono ?_
            rintro e w4' ⟨rfl, rfl⟩
            rw [show rankN 2 = 2 from by decide]
            go_wp2_with fail
            refine (open_any _ _).mono ?_
            rintro e w4' ⟨rfl, rfl⟩
            rw [show openB 2 = true from by decide]
            go_wp2_with fail
            refine (moves_225 _).mono ?_
            rintro e w5 ⟨rfl, hb2⟩
            have HB5 := Lib.hid (HB3.out.trans (hb2.mono HB3.out.size))
            have HR5 := Lib.hid (HR.out.on hb2)
            clear hb2 HB3 HR l0 c0 c1 c2 c3 c4 c5 c6 c7 f0
            obtain ⟨l0, c0, c1, c2, c3, c4, c5, c6, c7, f0⟩ := mcells HR5.out
            clear HR5
            go_wp2
            go_quiet (fail)
            go_wp2
            exact ⟨⟨k + 1, 4, 0, 1, q, v, by omega, rfl, rfl, rfl, rfl, rfl, rfl, rfl, Lib.hid ⟨by omega, by omega, by omega, by omega⟩, Lib.hid (below_drewN HB5.out _)⟩, by show n - ((k : Int) + 1).toNat < n - ((k : Int)).toNat; omega⟩
          · rw [show (stepMo 2 2 6).val = mv true 4 0 2 0 false false 2 from rfl]
            clear hidle
            go_wp2_with fail
            refine (isgood_any _ _ _).mono ?_
            rintro e w3 ⟨rfl, hb2⟩
            rw [show goodB 4 0 = true from by decide]
            have HB3 := Lib.hid ((Below.alloc_on HB2.out rfl _).trans (hb2.mono (Below.alloc_on HB2.out rfl _).size))
            have HR := Lib.hid ((Row.new w2 (mrow true 4 0 2 0 false false 2) 27).on hb2)
            obtain ⟨l0, c0, c1, c2, c3, c4, c5, c6, c7, f0⟩ := mcells HR.out
            clear hb2 HB2
            go_wp2_with fail
            refine (rank_any _ _).mono ?_
            rintro e w4' ⟨rfl, rfl⟩
            rw [show rankN 4 = 3 from by decide]
            go_wp2_with fail
            refine (rank_any _ _).mono ?_
            rintro e w4' ⟨rfl, rfl⟩
            rw [show rankN 2 = 2 from by decide]
            go_wp2_with fail
            refine (open_any _ _).mono ?_
            rintro e w4' ⟨rfl, rfl⟩
            rw [show openB 2 = true from by decide]
            go_wp2_with fail
            refine (moves_226 _).mono ?_
            rintro e w5 ⟨rfl, hb2⟩
            have HB5 := Lib.hid (HB3.out.trans (hb2.mono HB3.out.size))
            have HR5 := Lib.hid (HR.out.on hb2)
            clear hb2 HB3 HR l0 c0 c1 c2 c3 c4 c5 c6 c7 f0
            obtain ⟨l0, c0, c1, c2, c3, c4, c5, c6, c7, f0⟩ := mcells HR5.out
            clear HR5
            go_wp2
            go_quiet (fail)
            go_wp2
            exact ⟨⟨k + 1, 4, 0, 1, q, v, by omega, rfl, rfl, rfl, rfl, rfl, rfl, rfl, Lib.hid ⟨by omega, by omega, by omega, by omega⟩, Lib.hid (below_drewN HB5.out _)⟩, by show n - ((k : Int) + 1).toNat < n - ((k : Int)).toNat; omega⟩
          · rw [show (stepMo 2 2 7).val = mv true 2 3 0 3 false true 2 from rfl]
            clear hidle
            go_wp2_with fail
            refine (isgood_any _ _ _).mono ?_
            rintro e w3 ⟨rfl, hb2⟩
            rw [show goodB 2 3 = true from by decide]
            have HB3 := Lib.hid ((Below.alloc_on HB2.out rfl _).trans (hb2.mono (Below.alloc_on HB2.out rfl _).size))
            have HR := Lib.hid ((Row.new w2 (mrow true 2 3 0 3 false true 2) 27).on hb2)
            obtain ⟨l0, c0, c1, c2, c3, c4, c5, c6, c7, f0⟩ := mcells HR.out
            clear hb2 HB2
            go_wp2_with fail
            refine (rank_any _ _).mono ?_
            rintro e w4' ⟨rfl, rfl⟩
            rw [show rankN 2 = 2 from by decide]
            go_wp2_with fail
            refine (rank_any _ _).mono ?_
            rintro e w4' ⟨rfl, rfl⟩
            rw [show rankN 2 = 2 from by decide]
            go_wp2_with fail
            refine (open_any _ _).mono ?_
            rintro e w4' ⟨rfl, rfl⟩
            rw [show openB 2 = true from by decide]
            go_wp2_with fail
            refine (moves_227 _).mono ?_
            rintro e w5 ⟨rfl, hb2⟩
            have HB5 := Lib.hid (HB3.out.trans (hb2.mono HB3.out.size))
            have HR5 := Lib.hid (HR.out.on hb2)
            clear hb2 HB3 HR l0 c0 c1 c2 c3 c4 c5 c6 c7 f0
            obtain ⟨l0, c0, c1, c2, c3, c4, c5, c6, c7, f0⟩ := mcells HR5.out
            clear HR5
            go_wp2
            go_quiet (fail)
            go_wp2
            exact ⟨⟨k + 1, 2, 3, 0, q, v + 1, by omega, rfl, rfl, rfl, rfl, rfl, rfl, rfl, Lib.hid ⟨by omega, by omega, by omega, by omega⟩, Lib.hid (below_drewN HB5.out _)⟩, by show n - ((k : Int) + 1).toNat < n - ((k : Int)).toNat; omega⟩
          · rw [show (stepMo 2 2 8).val = mv true 2 2 0 0 false false 1 from rfl]
            clear hidle
            go_wp2_with fail
            refine (isgood_any _ _ _).mono ?_
            rintro e w3 ⟨rfl, hb2⟩
            rw [show goodB 2 2 = true from by decide]
            have HB3 := Lib.hid ((Below.alloc_on HB2.out rfl _).trans (hb2.mono (Below.alloc_on HB2.out rfl _).size))
            have HR := Lib.hid ((Row.new w2 (mrow true 2 2 0 0 false false 1) 27).on hb2)
            obtain ⟨l0, c0, c1, c2, c3, c4, c5, c6, c7, f0⟩ := mcells HR.out
            clear hb2 HB2
            go_wp2_with fail
            refine (rank_any _ _).mono ?_
            rintro e w4' ⟨rfl, rfl⟩
            rw [show rankN 2 = 2 from by decide]
            go_wp2_with fail
            refine (rank_any _ _).mono ?_
            rintro e w4' ⟨rfl, rfl⟩
            rw [show rankN 2 = 2 from by decide]
            go_wp2_with fail
            refine (open_any _ _).mono ?_
            rintro e w4' ⟨rfl, rfl⟩
            rw [show openB 2 = true from by decide]
            go_wp2_with fail
            refine (moves_228 _).mono ?_
            rintro e w5 ⟨rfl, hb2⟩
            have HB5 := Lib.hid (HB3.out.trans (hb2.mono HB3.out.size))
            have HR5 := Lib.hid (HR.out.on hb2)
            clear hb2 HB3 HR l0 c0 c1 c2 c3 c4 c5 c6 c7 f0
            obtain ⟨l0, c0, c1, c2, c3, c4, c5, c6, c7, f0⟩ := mcells HR5.out
            clear HR5
            go_wp2
            go_quiet (fail)
            go_wp2
            exact ⟨⟨k + 1, 2, 2, 0, q, v, by omega, rfl, rfl, rfl, rfl, rfl, rfl, rfl, Lib.hid ⟨by omega, by omega, by omega, by omega⟩, Lib.hid (below_drewN HB5.out _)⟩, by show n - ((k : Int) + 1).toNat < n - ((k : Int)).toNat; omega⟩
        · rcases hev with rfl | rfl | rfl | rfl | rfl | rfl | rfl | rfl
          · rw [show (stepMo 2 3 1).val = mv true 2 0 0 0 false false 0 from rfl]
            clear hidle
            go_wp2_with fail
            refine (isgood_any _ _ _).mono ?_
            rintro e w3 ⟨rfl, hb2⟩
            rw [show goodB 2 0 = true from by decide]
            have HB3 := Lib.hid ((Below.alloc_on HB2.out rfl _).trans (hb2.mono (Below.alloc_on HB2.out rfl _).size))
            have HR := Lib.hid ((Row.new w2 (mrow true 2 0 0 0 false false 0) 27).on hb2)
            obtain ⟨l0, c0, c1, c2, c3, c4, c5, c6, c7, f0⟩ := mcells HR.out
            clear hb2 HB2
            go_wp2_with fail
            refine (rank_any _ _).mono ?_
            rintro e w4' ⟨rfl, rfl⟩
            rw [show rankN 2 = 2 from by decide]
            go_wp2_with fail
            refine (rank_any _ _).mono ?_
            rintro e w4' ⟨rfl, rfl⟩
            rw [show rankN 2 = 2 from by decide]
            go_wp2_with fail
            refine (open_any _ _).mono ?_
            rintro e w4' ⟨rfl, rfl⟩
            rw [show openB 2 = true from by decide]
            go_wp2_with fail
            refine (moves_231 _).mono ?_
            rintro e w5 ⟨rfl, hb2⟩
            have HB5 := Lib.hid (HB3.out.trans (hb2.mono HB3.out.size))
            have HR5 := Lib.hid (HR.out.on hb2)
            clear hb2 HB3 HR l0 c0 c1 c2 c3 c4 c5 c6 c7 f0
            obtain ⟨l0, c0, c1, c2, c3, c4, c5, c6, c7, f0⟩ := mcells HR5.out
            clear HR5
            go_wp2
            go_quiet (fail)
            go_wp2
            exact ⟨⟨k + 1, 2, 0, 0, q, v, by omega, rfl, rfl, rfl, rfl, rfl, rfl, rfl, Lib.hid ⟨by omega, by omega, by omega, by omega⟩, Lib.hid (below_drewN HB5.out _)⟩, by show n - ((k : Int) + 1).toNat < n - ((k : Int)).toNat; omega⟩
          · rw [show (stepMo 2 3 2).val = mv true 2 0 0 0 false false 0 from rfl]
            clear hidle
            go_wp2_with fail
            refine (isgood_any _ _ _).mono ?_
            rintro e w3 ⟨rfl, hb2⟩
            rw [show goodB 2 0 = true from by decide]
            have HB3 := Lib.hid ((Below.alloc_on HB2.out rfl _).trans (hb2.mono (Below.alloc_on HB2.out rfl _).size))
            have HR := Lib.hid ((Row.new w2 (mrow true 2 0 0 0 false false 0) 27).on hb2)
            obtain ⟨l0, c0, c1, c2, c3, c4, c5, c6, c7, f0⟩ := mcells HR.out
            clear hb2 HB2
            go_wp2_with fail
            refine (rank_any _ _).mono ?_
            rintro e w4' ⟨rfl, rfl⟩
            rw [show rankN 2 = 2 from by decide]
            go_wp2_with fail
            refine (rank_any _ _).mono ?_
            rintro e w4' ⟨rfl, rfl⟩
            rw [show rankN 2 = 2 from by decide]
            go_wp2_with fail
            refine (open_any _ _).mono ?_
            rintro e w4' ⟨rfl, rfl⟩
            rw [show openB 2 = true from by decide]
            go_wp2_with fail
            refine (moves_232 _).mono ?_
            rintro e w5 ⟨rfl, hb2⟩
            have HB5 := Lib.hid (HB3.out.trans (hb2.mono HB3.out.size))
            have HR5 := Lib.hid (HR.out.on hb2)
            clear hb2 HB3 HR l0 c0 c1 c2 c3 c4 c5 c6 c7 f0
            obtain ⟨l0, c0, c1, c2, c3, c4, c5, c6, c7, f0⟩ := mcells HR5.out
            clear HR5
            go_wp2
            go_quiet (fail)
            go_wp2
            exact ⟨⟨k + 1, 2, 0, 0, q, v, by omega, rfl, rfl, rfl, rfl, rfl, rfl, rfl, Lib.hid ⟨by omega, by omega, by omega, by omega⟩, Lib.hid (below_drewN HB5.out _)⟩, by show n - ((k : Int) + 1).toNat < n - ((k : Int)).toNat; omega⟩
          · exact absurd (show stepMo 2 3 3 = moNone 2 3 from by decide) hidle
          · rw [show (stepMo 2 3 4).val = mv true 3 0 1 0 false false 2 from rfl]
            clear hidle
            go_wp2_with fail
            refine (isgood_any _ _ _).mono ?_
            rintro e w3 ⟨rfl, hb2⟩
            rw [show goodB 3 0 = true from by decide]
            have HB3 := Lib.hid ((Below.alloc_on HB2.out rfl _).trans (hb2.mono (Below.alloc_on HB2.out rfl _).size))
            have HR := Lib.hid ((Row.new w2 (mrow true 3 0 1 0 false false 2) 27).on hb2)
            obtain ⟨l0, c0, c1, c2, c3, c4, c5, c6, c7, f0⟩ := mcells HR.out
            clear hb2 HB2
            go_wp2_with fail
            refine (rank_any _ _).mono ?_
            rintro e w4' ⟨rfl, rfl⟩
            rw [show rankN 3 = 3 from by decide]
            go_wp2_with fail
            refine (rank_any _ _).mono ?_
            rintro e w4' ⟨rfl, rfl⟩
            rw [show rankN 2 = 2 from by decide]
            go_wp2_with fail
            refine (open_any _ _).mono ?_
            rintro e w4' ⟨rfl, rfl⟩
            rw [show openB 2 = true from by decide]
            go_wp2_with fail
            refine (moves_234 _).mono ?_
            rintro e w5 ⟨rfl, hb2⟩
            have HB5 := Lib.hid (HB3.out.trans (hb2.mono HB3.out.size))
            have HR5 := Lib.hid (HR.out.on hb2)
            clear hb2 HB3 HR l0 c0 c1 c2 c3 c4 c5 c6 c7 f0
            obtain ⟨l0, c0, c1, c2, c3, c4, c5, c6, c7, f0⟩ := mcells HR5.out
            clear HR5
            go_wp2
            go_quiet (fail)
            go_wp2
            exact ⟨⟨k + 1, 3, 0, 1, q, v, by omega, rfl, rfl, rfl, rfl, rfl, rfl, rfl, Lib.hid ⟨by omega, by omega, by omega, by omega⟩, Lib.hid (below_drewN HB5.out _)⟩, by show n - ((k : Int) + 1).toNat < n - ((k : Int)).toNat; omega⟩
          · rw [show (stepMo 2 3 5).val = mv true 4 0 2 0 false false 2 from rfl]
            clear hidle
            go_wp2_with fail
            refine (isgood_any _ _ _).mono ?_
            rintro e w3 ⟨rfl, hb2⟩
            rw [show goodB 4 0 = true from by decide]
            have HB3 := Lib.hid ((Below.alloc_on HB2.out rfl _).trans (hb2.mono (Below.alloc_on HB2.out rfl _).size))
            have HR := Lib.hid ((Row.new w2 (mrow true 4 0 2 0 false false 2) 27).on hb2)
            obtain ⟨l0, c0, c1, c2, c3, c4, c5, c6, c7, f0⟩ := mcells HR.out
            clear hb2 HB2
            go_wp2_with fail
            refine (rank_any _ _).mono ?_
            rintro e w4' ⟨rfl, rfl⟩
            rw [show rankN 4 = 3 from by decide]
            go_wp2_with fail
            refine (rank_any _ _).mono ?_
            rintro e w4' ⟨rfl, rfl⟩
            rw [show rankN 2 = 2 from by decide]
            go_wp2_with fail
            refine (open_any _ _).mono ?_
            rintro e w4' ⟨rfl, rfl⟩
            rw [show openB 2 = true from by decide]
            go_wp2_with fail
            refine (moves_235 _).mono ?_
            rintro e w5 ⟨rfl, hb2⟩
            have HB5 := Lib.hid (HB3.out.trans (hb2.mono HB3.out.size))
            have HR5 := Lib.hid (HR.out.on hb2)
            clear hb2 HB3 HR l0 c0 c1 c2 c3 c4 c5 c6 c7 f0
            obtain ⟨l0, c0, c1, c2, c3, c4, c5, c6, c7, f0⟩ := mcells HR5.out
            clear HR5
            go_wp2
            go_quiet (fail)
            go_wp2
            exact ⟨⟨k + 1, 4, 0, 1, q, v, by omega, rfl, rfl, rfl, rfl, rfl, rfl, rfl, Lib.hid ⟨by omega, by omega, by omega, by omega⟩, Lib.hid (below_drewN HB5.out _)⟩, by show n - ((k : Int) + 1).toNat < n - ((k : Int)).toNat; omega⟩
          · rw [show (stepMo 2 3 6).val = mv true 4 0 2 0 false false 2 from rfl]
            clear hidle
            go_wp2_with fail
            refine (isgood_any _ _ _).mono ?_
            rintro e w3 ⟨rfl, hb2⟩
            rw [show goodB 4 0 = true from by decide]
            have HB3 := Lib.hid ((Below.alloc_on HB2.out rfl _).trans (hb2.mono (Below.alloc_on HB2.out rfl _).size))
            have HR := Lib.hid ((Row.new w2 (mrow true 4 0 2 0 false false 2) 27).on hb2)
            obtain ⟨l0, c0, c1, c2, c3, c4, c5, c6, c7, f0⟩ := mcells HR.out
            clear hb2 HB2
            go_wp2_with fail
            refine (rank_any _ _).mono ?_
            rintro e w4' ⟨rfl, rfl⟩
            rw [show rankN 4 = 3 from by decide]
            go_wp2_with fail
            refine (rank_any _ _).mono ?_
            rintro e w4' ⟨rfl, rfl⟩
            rw [show rankN 2 = 2 from by decide]
            go_wp2_with fail
            refine (open_any _ _).mono ?_
            rintro e w4' ⟨rfl, rfl⟩
            rw [show openB 2 = true from by decide]
            go_wp2_with fail
            refine (moves_236 _).mono ?_
            rintro e w5 ⟨rfl, hb2⟩
            have HB5 := Lib.hid (HB3.out.trans (hb2.mono HB3.out.size))
            have HR5 := Lib.hid (HR.out.on hb2)
            clear hb2 HB3 HR l0 c0 c1 c2 c3 c4 c5 c6 c7 f0
            obtain ⟨l0, c0, c1, c2, c3, c4, c5, c6, c7, f0⟩ := mcells HR5.out
            clear HR5
            go_wp2
            go_quiet (fail)
            go_wp2
            exact ⟨⟨k + 1, 4, 0, 1, q, v, by omega, rfl, rfl, rfl, rfl, rfl, rfl, rfl, Lib.hid ⟨by omega, by omega, by omega, by omega⟩, Lib.hid (below_drewN HB5.out _)⟩, by show n - ((k : Int) + 1).toNat < n - ((k : Int)).toNat; omega⟩
          · exact absurd (show stepMo 2 3 7 = moNone 2 3 from by decide) hidle
          · rw [show (stepMo 2 3 8).val = mv true 2 3 0 0 false false 1 from rfl]
            clear hidle
            go_wp2_with fail
            refine (isgood_any _ _ _).mono ?_
            rintro e w3 ⟨rfl, hb2⟩
            rw [show goodB 2 3 = true from by decide]
            have HB3 := Lib.hid ((Below.alloc_on HB2.out rfl _).trans (hb2.mono (Below.alloc_on HB2.out rfl _).size))
            have HR := Lib.hid ((Row.new w2 (mrow true 2 3 0 0 false false 1) 27).on hb2)
            obtain ⟨l0, c0, c1, c2, c3, c4, c5, c6, c7, f0⟩ := mcells HR.out
            clear hb2 HB2
            go_wp2_with fail
            refine (rank_any _ _).mono ?_
            rintro e w4' ⟨rfl, rfl⟩
            rw [show rankN 2 = 2 from by decide]
            go_wp2_with fail
            refine (rank_any _ _).mono ?_
            rintro e w4' ⟨rfl, rfl⟩
            rw [show rankN 2 = 2 from by decide]
            go_wp2_with fail
            refine (open_any _ _).mono ?_
            rintro e w4' ⟨rfl, rfl⟩
            rw [show openB 2 = true from by decide]
            go_wp2_with fail
            refine (moves_238 _).mono ?_
            rintro e w5 ⟨rfl, hb2⟩
            have HB5 := Lib.hid (HB3.out.trans (hb2.mono HB3.out.size))
            have HR5 := Lib.hid (HR.out.on hb2)
            clear hb2 HB3 HR l0 c0 c1 c2 c3 c4 c5 c6 c7 f0
            obtain ⟨l0, c0, c1, c2, c3, c4, c5, c6, c7, f0⟩ := mcells HR5.out
            clear HR5
            go_wp2
            go_quiet (fail)
            go_wp2
            exact ⟨⟨k + 1, 2, 3, 0, q, v, by omega, rfl, rfl, rfl, rfl, rfl, rfl, rfl, Lib.hid ⟨by omega, by omega, by omega, by omega⟩, Lib.hid (below_drewN HB5.out _)⟩, by show n - ((k : Int) + 1).toNat < n - ((k : Int)).toNat; omega⟩
        · exact absurd (mo_c (by decide)) hidle
        · exact absurd (mo_c (by decide)) hidle
    · go_wp2
      go_ret
      exact ⟨rfl, HB.out⟩
end Go.Proofs.Ytfemggdbgibgaaa
