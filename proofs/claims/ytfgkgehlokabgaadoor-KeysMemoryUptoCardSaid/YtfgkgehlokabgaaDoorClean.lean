/-
  Walks over statements of layer 2: clean.
-/
import Derived.Test.YtfgkgehlokabgaaDoorBack
namespace Go.Proofs.YtfgkgehlokabgaaDoor
open Go.RowKit

set_option maxRecDepth 100000 in
set_option maxHeartbeats 8000000 in
theorem clean_any (ad : Option Addr) (n cap : Nat) (A : Nat → PV) (hn : n ≤ 1099511627776) (hA : ∀ i, i < n → (A i).nrm = A i) (w : World) (h : SliceIs w w.heap.size ad n A) :
    Calls Tryd.prog 10 #[.slice ad n cap] w fun e w' => e = .returned (.bool true) ∧ Below w.heap.size w w' := by
  have HI := Lib.hid h
  have HA := Lib.hid hA
  clear h hA
  go_enter Tryd.func10, Tryd.ntmps10
  go_wp2_with fail
  go_loopw [7] (fun i wr => ∃ k : Nat, k ≤ n ∧ i = .int .i64 k ∧ Hid (Below w.heap.size w wr)) (fun i _ => n - (intOf i).toNat)
  case atStart => exact ⟨0, by omega, rfl, Lib.hid (Below.refl _ _)⟩
  case round =>
    obtain ⟨k, hk, rfl, HB⟩ := hrel
    by_cases hkn : k < n
    · have hkn2 : (k : Int) < (n : Int) := by omega
      obtain ⟨b, off, rfl, hblt, c0, c1, c2⟩ := (HI.out.below HB.out (Nat.le_refl _)).at_ k hkn
      have p1 := hide fun (W : World) => plain_any (A k) W
      rw [HA.out k hkn] at p1
      obtain ⟨p, hp⟩ : ∃ p, Hid (A k = p) := ⟨_, Lib.hid rfl⟩
      rw [hp.out] at c0 c1 c2 p1
      obtain ⟨num, m, s⟩ := p
      dsimp only at c0 c1 c2
      have hP := Lib.hid (Blk.new wr #[.bool num, .int .i64 m, .string s] 39)
      have hgl : Hid (wr.heap.size < (wr.alloc (.cells #[.bool num, .int .i64 m, .string s] 39)).heap.size) := Lib.hid (by simp)
      have HB2 := Lib.hid (HB.out.alloc HB.out.size (.cells #[.bool num, .int .i64 m, .string s] 39))
      clear hblt
      go_upto_region 4 with fail
      go_cut [14] (fun v wx => v = .bool false ∧ Hid (Below w.heap.size w wx))
      case first =>
        go_region_with (go_at_call 19; ((with_reducible refine (unhide p1 _).mono ?_); rintro e w2 ⟨rfl, hb⟩; have hP1 := hP.out.below (undrew hb) hgl.out; obtain ⟨e0, e1, e2⟩ := part_cells hP1))
        all_goals
          go_wp2_with fail
          go_meet
          exact ⟨by simp, Lib.hid (HB2.out.trans ((undrew hb).mono HB2.out.size))⟩
      case rest =>
        obtain ⟨rfl, HB3⟩ := hcut
        go_wp2_with fail
        go_roundw
        case rel => exact ⟨k + 1, by omega, by go_num, HB3⟩
        case measure => simp [intOf]; omega
    · have hkn2 : ¬ (k : Int) < (n : Int) := by omega
      go_wp2_with fail
      go_ret
      exact ⟨rfl, HB.out⟩
theorem clean_at {w : World} {ad : Option Addr} {n : Nat} {L : Nat → PV} (h : In w ad n L) (cap : Nat) (hL : ∀ i, i < n → (L i).nrm = L i) (W : World) (hb : Below w.heap.size w W) :
    Calls Tryd.prog 10 #[.slice ad n cap] W fun e w' => e = .returned (.bool true) ∧ Below W.heap.size W w' :=
  clean_any ad n cap L h.n_le hL W (h.at_.later hb)
end Go.Proofs.YtfgkgehlokabgaaDoor
