/-
  Walks over statements of layer 2: joins.
-/
import Derived.Test.YtfgkgehlokabgaaRefs2
namespace Go.Proofs.Ytfgkgehlokabgaa
open Go.RowKit

theorem joinr_at {w : World} {ad : Option Addr} {n : Nat} {L : Nat → PV} (h : In w ad n L) (cap : Nat) (x : ByteArray) (hx : Hid (keyS L n = x)) (W : World) (hb : Below w.heap.size w W) :
    Calls Try.prog 13 #[.slice ad n cap] W fun e w' => e = .returned (.string x) ∧ Below W.heap.size W w' := by
  rw [← hx.out]
  exact joinr_any ad n cap L h.n_le h.ok h.key W (h.at_.later hb)
theorem comparer_at {w : World} {ad bd : Option Addr} {na nb : Nat} {A B : Nat → PV} (h : In w ad na A) (h' : In w bd nb B) (ca cb : Nat) (r : Int) (hr : Hid (Ky.cmpL (lst A na) (lst B nb) = r)) (W : World) (hb : Below w.heap.size w W) :
    Calls Try.prog 15 #[.slice ad na ca, .slice bd nb cb] W fun e w' => e = .returned (.int .i64 r) ∧ Below W.heap.size W w' := by
  rw [← hr.out]
  exact Comparer_any ad bd na ca nb cb A B h.n_le h'.n_le W (h.at_.later hb) (h'.at_.later hb)
set_option maxRecDepth 100000 in
set_option maxHeartbeats 8000000 in
theorem joins_law (ad bd : Option Addr) (na ca nb cb : Nat) (A B : Nat → PV) (w : World) (hA : In w ad na A) (hB : In w bd nb B) :
    Calls Try.prog 4 #[.slice ad na ca, .slice bd nb cb] w fun e w' => e = .returned (.bool true) ∧ Below w.heap.size w w' := by
  obtain ⟨x, hx⟩ : ∃ t, Hid (keyS A na = t) := ⟨_, Lib.hid rfl⟩
  obtain ⟨r, hr⟩ : ∃ t, Hid (Ky.cmpL (lst A na) (lst B nb) = t) := ⟨_, Lib.hid rfl⟩
  have J1 := hide fun W hb => join_at hA ca x hx W hb
  have J2 := hide fun W hb => joinr_at hA ca x hx W hb
  have C1 := hide fun W hb => compare_at hA hB ca cb r hr W hb
  have C2 := hide fun W hb => comparer_at hA hB ca cb r hr W hb
  have HI := Lib.hid hA.at_
  have hn := hA.n_le
  clear hx hr hA hB
  go_enter Try.func4, Try.ntmps4
  go_wp2_with fail
  refine (lives_any _).mono ?_
  rintro e w1 ⟨rfl, hb⟩
  have HB1 := Lib.hid hb
  clear hb
  go_wp2_with fail
  go_loopw [13] (fun i wr => ∃ k : Nat, k ≤ na ∧ i = .int .i64 k ∧ Hid (Below w.heap.size w wr)) (fun i _ => na - (intOf i).toNat)
  case atStart => exact ⟨0, by omega, rfl, HB1⟩
  case round =>
    obtain ⟨k, hk, rfl, HB⟩ := hrel
    clear HB1
    by_cases hkn : k < na
    · have hkn2 : (k : Int) < (na : Int) := by omega
      obtain ⟨b, off, rfl, hblt, c0, c1, c2⟩ := (HI.out.below HB.out (Nat.le_refl _)).at_ k hkn
      obtain ⟨p, hp⟩ : ∃ p, Hid (A k = p) := ⟨_, Lib.hid rfl⟩
      rw [hp.out] at c0 c1 c2
      obtain ⟨num, m, s⟩ := p
      dsimp only at c0 c1 c2
      have hP := Lib.hid (Blk.new wr #[.bool num, .int .i64 m, .string s] 31)
      have hgl : Hid (wr.heap.size < (wr.alloc (.cells #[.bool num, .int .i64 m, .string s] 31)).heap.size) := Lib.hid (by simp)
      have HB2 := Lib.hid (HB.out.alloc HB.out.size (.cells #[.bool num, .int .i64 m, .string s] 31))
      clear hblt
      go_upto_region 7 with fail
      go_cut [32] (fun v wx => v = .bool false ∧ Hid (Below w.heap.size w wx))
      case first =>
        go_region_with (first
          | (go_at_call 11; ((with_reducible refine (text_any _ _).mono ?_); rintro e w2 ⟨rfl, hb⟩; have hP1 := hP.out.below (undrew hb) hgl.out; obtain ⟨e0, e1, e2⟩ := part_cells hP1))
          | (go_at_call 12; ((with_reducible refine (number_any _ _).mono ?_); rintro e w3 ⟨rfl, hb2⟩; have hP2 := hP1.below hb2 hP1.lt; obtain ⟨f0, f1, f2⟩ := part_cells hP2)))
        all_goals
          go_wp2_with fail
          go_meet
          have hz := HB2.out.trans ((undrew hb).mono HB2.out.size)
          exact ⟨rfl, Lib.hid (hz.trans (hb2.mono hz.size))⟩
      case rest =>
        obtain ⟨rfl, HB3⟩ := hcut
        go_wp2_with fail
        go_roundw
        case rel => exact ⟨k + 1, by omega, by go_num, HB3⟩
        case measure => simp [intOf]; omega
    · have hkn2 : ¬ (k : Int) < (na : Int) := by omega
      go_wp2_with fail
      refine (unhide J1 _ HB.out).mono ?_
      rintro e w2 ⟨rfl, hb⟩
      have HB2 := Lib.hid (HB.out.trans (hb.mono HB.out.size))
      clear hb
      go_wp2_with fail
      refine (unhide J2 _ HB2.out).mono ?_
      rintro e w3 ⟨rfl, hb⟩
      have HB3 := Lib.hid (HB2.out.trans (hb.mono HB2.out.size))
      clear hb
      go_wp2_with fail
      refine (unhide C1 _ HB3.out).mono ?_
      rintro e w4 ⟨rfl, hb⟩
      have HB4 := Lib.hid (HB3.out.trans (hb.mono HB3.out.size))
      clear hb
      go_wp2_with fail
      refine (unhide C2 _ HB4.out).mono ?_
      rintro e w5 ⟨rfl, hb⟩
      have HB5 := Lib.hid (HB4.out.trans (hb.mono HB4.out.size))
      clear hb
      go_wp2_with fail
      go_ret
      exact ⟨rfl, HB5.out⟩
end Go.Proofs.Ytfgkgehlokabgaa
