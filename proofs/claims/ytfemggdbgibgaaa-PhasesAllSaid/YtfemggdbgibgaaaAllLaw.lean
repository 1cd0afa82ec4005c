/-
  Layer 22: the walk of PhasesAll.
-/
import Derived.Test.YtfemggdbgibgaaaTold
import Derived.Lib.QuietBelow
import Derived.Deep.Cut
namespace Go.Proofs.Ytfemggdbgibgaaa
open Go.RowKit

def gdB (x : Int × Int) : Bool := goodB x.1 x.2
theorem gd_all : (prs 90).filter gdB = gp := by decide
theorem prs_at (k : Nat) (hk : k < 90) : ∃ p a, (prs 90)[k]? = some (p, a) ∧ (prs (k + 1)).filter gdB = (prs k).filter gdB ++ (if goodB p a then [(p, a)] else []) := by
  refine ⟨((k / 9 : Nat) : Int) - 2, ((k % 9 : Nat) : Int) - 2, ?_, ?_⟩
  · unfold prs
    rw [List.getElem?_map, List.getElem?_range hk]
    rfl
  · have e : prs (k + 1) = prs k ++ [(((k / 9 : Nat) : Int) - 2, ((k % 9 : Nat) : Int) - 2)] := by
      unfold prs
      rw [List.range_succ, List.map_append]
      rfl
    rw [e, List.filter_append, List.filter_cons]
    unfold gdB
    rfl
theorem filter_le (k : Nat) : ((prs k).filter gdB).length ≤ k := by
  have := List.length_filter_le gdB (prs k)
  rw [prs_len] at this
  exact this
theorem all_any (w : World) : Calls Try.prog 11 #[] w fun e w' => e = .returned (.func (.func 26) #[] #[]) ∧ w = w' := by
  go_enter Try.func11, Try.ntmps11
  go_wp2
  go_ret
  exact ⟨rfl, rfl⟩
abbrev lit6 : Array Value := #[.int .i64 1, .int .i64 1, .int .i64 2, .int .i64 0, .int .i64 2, .int .i64 2, .int .i64 2, .int .i64 3, .int .i64 3, .int .i64 0, .int .i64 4, .int .i64 0]
set_option maxRecDepth 100000 in
set_option maxHeartbeats 8000000 in
theorem all_law (st : Int) (w : World) :
    Calls Try.prog 3 #[.int .i64 st] w fun e w' => e = .returned (.bool true) ∧ Below w.heap.size w w' := by
  have hmo : Try.prog.follows .mixedOrders = true := by kernel_rfl
  go_enter Try.func3, Try.ntmps3
  go_wp2_with fail
  refine (fixed_any _).mono ?_
  rintro e w1 ⟨rfl, hb⟩
  have HB1 := Lib.hid hb
  clear hb
  go_wp2_with fail
  refine (pairs_any _).mono ?_
  rintro e w2 ⟨pad, pn, pc, rfl, hp, hb⟩
  have HB2 := Lib.hid (HB1.out.trans (hb.mono HB1.out.size))
  have HP2 := Lib.hid (hp.mono (B' := w.heap.size) fun k hk => Nat.le_trans HB1.out.size (hp.lt k hk).1)
  have hpn : pn = 90 := by have := hp.len_eq.1; rw [prs_len] at this; exact this.symm
  subst hpn
  clear hb hp
  go_wp2_with fail
  go_loopw [3, 12] (fun v i wr => ∃ (k : Nat) (gad : Option Addr) (gn gc : Nat), k ≤ 90 ∧ i = .int .i64 k ∧ v = .slice gad gn gc ∧ Hid (EQ.Own wr w.heap.size (.slice gad gn gc) ((prs k).filter gdB)) ∧ Hid (EQ.Own wr w.heap.size (.slice pad 90 pc) (prs 90)) ∧ Hid (Apart (.slice pad 90 pc) (.slice gad gn gc)) ∧ Hid (Below w.heap.size w wr)) (fun _ i _ => 90 - (intOf i).toNat)
  case atStart => exact ⟨0, _, _, _, by omega, rfl, rfl, Lib.hid (Elt.Own.nil _ _ _), HP2, Lib.hid (Apart.nil _ _ _), HB2⟩
  case round =>
    obtain ⟨k, gad, gn, gc, hk, rfl, rfl, hG, hP, hA, hB⟩ := hrel
    clear HP2 HB1 HB2
    by_cases hkn : k < 90
    · have hkn2 : (k : Int) < 90 := by omega
      obtain ⟨p, a, hpa, hnx⟩ := prs_at k hkn
      obtain ⟨b, off, hpad, hbl, c0, c1⟩ := rdQ hP.out.rd k p a hpa
      have HNX := Lib.hid hnx
      subst hpad
      have hP5 := Lib.hid (hP.out.alloc (.cells #[.int .i64 p, .int .i64 a] 25))
      have hG5 := Lib.hid (hG.out.alloc (.cells #[.int .i64 p, .int .i64 a] 25))
      have hB5 := Lib.hid (hB.out.alloc hB.out.size (.cells #[.int .i64 p, .int .i64 a] 25))
      have hX5 := Lib.hid (Blk.new wr #[.int .i64 p, .int .i64 a] 25)
      clear hpa hnx
      go_upto_region 7 with (fail)
      clear c0 c1 hbl
      obtain ⟨w5, hw5⟩ : ∃ W, Hid (wr.alloc (.cells #[.int .i64 p, .int .i64 a] 25) = W) := ⟨_, Lib.hid rfl⟩
      rw [hw5.out] at hP5 hG5 hB5 hX5 ⊢
      clear hw5 hP hG hB
      generalize wr.heap.size = xb at hX5 ⊢
      go_wp2_with fail
      go_loopw [6] (fun v wq => ∃ ev : Int, -2 ≤ ev ∧ ev ≤ 13 ∧ v = .int .i64 ev ∧ Hid (Below w5.heap.size w5 wq)) (fun v _ => (13 - intOf v).toNat)
      case atStart => exact ⟨-2, by omega, by omega, rfl, Lib.hid (Below.refl _ _)⟩
      case round =>
        obtain ⟨ev, he1, he2, rfl, hW⟩ := hrel
        have hX6 := Lib.hid (hX5.out.below hW.out hX5.out.lt)
        have d0 := hX6.out.at_ 0
        have d1 := hX6.out.at_ 1
        dsimp at d0 d1
        have hxl := hX6.out.lt
        by_cases hev : ev ≤ 12
        · obtain ⟨m, hm⟩ : ∃ m, Hid (stepMo p a ev = m) := ⟨_, Lib.hid rfl⟩
          obtain ⟨mt, mp, ma, mq, ms, mx, my, mz⟩ := m
          go_upto_region 10 with (fail)
          have k0 := cell_regrown d0
          have k1 := cell_regrown d1
          have cS : ∀ d os, Calls Try.prog 8 #[.int .i64 p, .int .i64 a, .int .i64 ev] (Go.Sort.grow (redrawn wr d) os) fun e w'' => e = .returned (mv mt mp ma mq ms mx my mz) ∧ ∃ p : Regrown, w'' = Go.Sort.grow (redrawn wr p.d) p.os := fun d os => by
            have h := step_any p a ev (Go.Sort.grow (redrawn wr d) os)
            rw [hm.out] at h
            exact Calls.regrown_of h
          have cR : ∀ d os, Calls Try.prog 9 #[.int .i64 p, .int .i64 a, .int .i64 ev] (Go.Sort.grow (redrawn wr d) os) fun e w'' => e = .returned (mv mt mp ma mq ms mx my mz) ∧ ∃ p : Regrown, w'' = Go.Sort.grow (redrawn wr p.d) p.os := fun d os => by
            have h := stepr_any p a ev (Go.Sort.grow (redrawn wr d) os)
            rw [hm.out] at h
            exact Calls.regrown_of h
          refine wp_region_quiet_below hmo (by kernel_rfl) ?_
          clear d0 d1
          repeat (go_big_quiet_step (with_reducible first | exact cS _ _ | exact cR _ _))
          refine wpQuiet_nil ?_
          intro _ hw'
          obtain ⟨⟨dq, osq⟩, hw''⟩ := hw'
          subst hw''
          go_wp2_with fail
          go_roundw
          case rel => exact ⟨ev + 1, by omega, by omega, rfl, Lib.hid (hW.out.trans ((below_regrown wr dq osq).mono hW.out.size))⟩
          case measure => simp [intOf]; omega
        · obtain rfl : ev = 13 := by omega
          have hG6 := Lib.hid (hG5.out.below hW.out (Nat.le_refl _))
          have hP6 := Lib.hid (hP5.out.below hW.out (Nat.le_refl _))
          have hB6 := Lib.hid (hB5.out.trans (hW.out.mono hB5.out.size))
          clear hG5 hP5 hB5 hX5 hW
          go_wp2_with fail
          refine (isgood_any _ _ _).mono ?_
          rintro e w7 ⟨rfl, hb⟩
          have hG7 := Lib.hid (hG6.out.below hb (Nat.le_refl _))
          have hP7 := Lib.hid (hP6.out.below hb (Nat.le_refl _))
          have hX7 := Lib.hid (hX6.out.below hb hX6.out.lt)
          have hB7 := Lib.hid (hB6.out.trans (hb.mono hB6.out.size))
          clear hG6 hP6 hX6 hB6 hb d0 d1 hxl
          cases hgo : goodB p a
          · rw [hgo] at HNX
            go_wp2_with fail
            go_roundw
            case rel => exact ⟨k + 1, _, _, _, by omega, by go_num, rfl, by rw [HNX.out]; simpa using hG7, hP7, hA, hB7⟩
            case measure => simp [intOf]; omega
          · rw [hgo] at HNX
            have d0 := hX7.out.at_ 0
            have d1 := hX7.out.at_ 1
            dsimp at d0 d1
            have hxl := hX7.out.lt
            have hlb : Hid (((prs k).filter gdB).length + 1 ≤ 274877906944) := Lib.hid (by have := filter_le k; omega)
            go_wp2_with (at_builtin; refine EQ.wpList_app rfl _ _ (by rfl) w.heap.size _ _ [(p, a)] w7 _ (by rfl) hG7.out _ 1 (by rfl) (by rfl) (by rfl) (by rfl) hlb.out hB7.out.size ?_; intro ad9 n9 c9 w9 h9)
            have HB9 := Lib.hid (h9.out.below hG7.out hB7.out hB7.out.size)
            have HP9 := Lib.hid (hP7.out.upd h9.out.upd (fun g hg e => hA.out g hg e))
            have HA9 := Lib.hid (hA.out.lies h9.out.lies fun g hg => (hP7.out.lt g hg).2)
            go_roundw
            case rel => exact ⟨k + 1, _, _, _, by omega, by go_num, rfl, by rw [HNX.out]; exact Lib.hid h9.out.own, HP9, HA9, HB9⟩
            case measure => simp [intOf]; omega
    · obtain rfl : k = 90 := by omega
      rw [gd_all] at hG
      have hgn : gn = 6 := by have := hG.out.len_eq.1; exact this.symm
      subst hgn
      have hnf : ∀ (f : Fn) (a b : Array Value) (W : World), (binOp .eql 31 (.func f a b) .nilFunc).run Try.prog W = .ok (.bool false) W := fun f a b W => by kernel_rfl
      clear hP hA
      go_wp2_with fail
      refine (all_any _).mono ?_
      rintro e w4 ⟨rfl, rfl⟩
      have hL := Lib.hid (Elt.Own.lit (E := EQ) (w := wr) (l := gp) (n := 6) w.heap.size hB.out.size rfl (by omega) lit6 rfl)
      have hG8 := Lib.hid (hG.out.alloc (.cells lit6 25))
      have hB8 := Lib.hid (hB.out.alloc hB.out.size (.cells lit6 25))
      clear hG hB
      go_wp2_with fail
      refine (walked_any _ _ _ _ _ _ hL.out.rd hG8.out.rd).mono ?_
      rintro e w5 ⟨rfl, hb⟩
      have hG9 := Lib.hid (hG8.out.below hb (Nat.le_refl _))
      have hB9 := Lib.hid (hB8.out.trans (hb.mono hB8.out.size))
      clear hL hG8 hB8 hb
      go_wp2_with fail
      refine (walked_any _ _ _ _ _ _ hG9.out.rd hG9.out.rd).mono ?_
      rintro e w6 ⟨rfl, hb⟩
      have hB10 := Lib.hid (hB9.out.trans (hb.mono hB9.out.size))
      clear hG9 hB9 hb
      go_wp2_with fail
      go_ret
      exact ⟨rfl, hB10.out⟩
end Go.Proofs.Ytfemggdbgibgaaa
