/-
  Layer 11: the document's answer: Of.
-/
import Derived.Test.YtiffjjophmgdlaaRef2
namespace Go.Proofs.Ytiffjjophmgdlaa
open Go.RowKit Tb
attribute [local go_sem ↓] Go.wp_at_zero Go.wp_at_succ

set_option maxRecDepth 100000 in
set_option maxHeartbeats 8000000 in
theorem refOf_any (ad : Option Addr) (n cap : Nat) (l : List Rw) (w : World) (hn : l.length = n) (hr : ER.Rd w w.heap.size ad l) (hlen : n ≤ 20001) :
    Calls Try.prog 8 #[.slice ad n cap] w fun e w' => ∃ ad' n' c', e = .returned (.agg #[.slice ad' n' c']) ∧ ER.Own w' w.heap.size (.slice ad' n' c') (refOf l) ∧ Below w.heap.size w w' := by
  have HN := Lib.hid hn
  have HR := Lib.hid hr
  have hlb := Lib.hid (ref_len l)
  clear hn hr
  have hb0 := Lib.hid (((Below.refl w.heap.size w).alloc (Nat.le_refl _) (.cells #[.slice none 0 0] 30)).alloc (by simp) (.cells #[.slice none 0 0] 30))
  have hst := Lib.hid (Elt.Own.nil ER ((w.alloc (.cells #[.slice none 0 0] 30)).alloc (.cells #[.slice none 0 0] 30)) w.heap.size)
  have b1 := (Blk.new w #[.slice none 0 0] 30).alloc (.cells #[.slice none 0 0] 30)
  have b2 := Blk.new (w.alloc (.cells #[.slice none 0 0] 30)) #[.slice none 0 0] 30
  rw [World.size_alloc] at b2
  have B1 := Lib.hid b1
  have B2 := Lib.hid b2
  clear b1 b2
  go_enter Try.func8, Try.ntmps8
  go_wp2_with fail
  go_loopw [9] (fun i wr => ∃ (k : Nat) (ad' : Option Addr) (n' c' : Nat), k ≤ n ∧ i = .int .i64 k ∧ Hid (Blk wr w.heap.size 30 #[.slice none 0 0]) ∧ Hid (Blk wr (w.heap.size + 1) 30 #[.slice ad' n' c']) ∧ Hid (ER.Own wr w.heap.size (.slice ad' n' c') (refOf (l.take k))) ∧ Hid (Below w.heap.size w wr)) (fun i _ => n - (intOf i).toNat)
  case atStart => exact ⟨0, none, 0, 0, Nat.zero_le _, rfl, B1, B2, hst, hb0⟩
  case round =>
    obtain ⟨k, ad', n', c', hk, rfl, hB1, hB2, hO, hB⟩ := hrel
    clear hst hb0 B1 B2
    have e0 : wr.cell? ⟨w.heap.size + 1, 0, none⟩ = some (.slice ad' n' c') := hB2.out.at_ 0
    have f0 := hB2.out.free 0
    have g1 : wr.cell? ⟨w.heap.size, 0, none⟩ = some (.slice none 0 0) := hB1.out.at_ 0
    have g0 := hB1.out.free 0
    by_cases hkn : k < n
    · have hkn2 : (k : Int) < (n : Int) := by omega
      obtain ⟨r, hr⟩ : ∃ r, Hid (l[k]? = some r) := ⟨l[k]'(by rw [HN.out]; exact hkn), Lib.hid (by simp)⟩
      obtain ⟨b, off, rfl, hblt, c0, c1⟩ := rdR (HR.out.below hB.out (Nat.le_refl _)) k r hr.out
      have hd := Lib.hid (ref_take hr.out)
      obtain ⟨rk, rv⟩ := r
      dsimp only at c0 c1
      have hB3 := Lib.hid (hB.out.alloc hB.out.size (.cells #[.string rk, .string rv] 25))
      have hO3 := Lib.hid (hO.out.alloc (.cells #[.string rk, .string rv] 25))
      have hB23 := Lib.hid (hB2.out.alloc (.cells #[.string rk, .string rv] 25))
      have hB13 := Lib.hid (hB1.out.alloc (.cells #[.string rk, .string rv] 25))
      have hbw : b < wr.heap.size := Nat.lt_of_lt_of_le hblt hB.out.size
      have hxw : w.heap.size + 1 < wr.heap.size := hB2.out.lt
      have hn' : n' ≤ 20001 := by have h1 := hO.out.len_eq.1; have h2 := ref_len (l.take k); rw [List.length_take] at h2; omega
      clear hblt
      go_wp2_with fail
      refine (refPut_any ad' n' c' (refOf (l.take k)) rk rv _ (RdS.of_own hO3.out) hn').mono ?_
      rintro e w2 ⟨ad2, n2, c2, rfl, ho2, hb2⟩
      have q2 := hB23.out.below hb2 hB23.out.lt
      have q1 := hB13.out.below hb2 hB13.out.lt
      have x0 : w2.cell? ⟨w.heap.size + 1, 0, none⟩ = some (.slice ad' n' c') := q2.at_ 0
      have x1 := q2.free 0
      have HO2 := Lib.hid (ho2.mono (B' := w.heap.size) (fun k hk => Nat.le_trans hB3.out.size (ho2.lt k hk).1))
      have HQ2 := Lib.hid q2
      have HQ1 := Lib.hid q1
      have HB4 := Lib.hid ((hB3.out.trans (hb2.mono hB3.out.size)).setCell (p := ⟨w.heap.size + 1, 0, none⟩) (by simp) (.slice ad2 n2 c2))
      have hbx : b < w2.heap.size := Nat.lt_of_lt_of_le hbw (Nat.le_trans (by simp) hb2.size)
      clear ho2 hb2 q1 q2 e0 f0 g0 g1
      go_wp2_with fail
      go_roundw
      case rel => exact ⟨k + 1, ad2, n2, c2, by omega, by go_num, Lib.hid (HQ1.out.other (by simp) _), Lib.hid (HQ2.out.set (j := 0) (.slice ad2 n2 c2)), by rw [hd.out]; exact Lib.hid (HO2.out.same fun g hg => Below.heap_setCell _ _ _ _ (fun e => HO2.out.apart HQ2.out (by decide) (by have e' : g = w.heap.size + 1 := e; subst e'; exact hg))), HB4⟩
      case measure => simp [intOf]; omega
    · have hkn2 : ¬ (k : Int) < (n : Int) := by omega
      obtain rfl : k = n := by omega
      rw [List.take_of_length_le (by rw [HN.out]; exact Nat.le_refl _)] at hO
      go_wp2_with fail
      have z0 : (wr.setCell ⟨w.heap.size, 0, none⟩ (.slice ad' n' c')).cell? ⟨w.heap.size, 0, none⟩ = some (.slice ad' n' c') := (hB1.out.set (j := 0) (.slice ad' n' c')).at_ 0
      refine bodyPost_ret (v := .agg #[.slice ad' n' c']) ?_ rfl ?_
      · simp [results, Try.f8, go_sem, z0]
      · exact ⟨_, _, _, rfl, hO.out.same fun g hg => Below.heap_setCell _ _ _ _ (fun e => hO.out.apart hB1.out (by decide) (by have e' : g = w.heap.size := e; subst e'; exact hg)), hB.out.setCell (p := ⟨w.heap.size, 0, none⟩) (by simp) _⟩
end Go.Proofs.Ytiffjjophmgdlaa
