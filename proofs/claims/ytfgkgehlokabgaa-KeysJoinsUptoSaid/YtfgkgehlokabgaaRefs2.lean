/-
  Walks over layer 2's reference: Join, order, Compare.
-/
import Derived.Test.YtfgkgehlokabgaaRefs
namespace Go.Proofs.Ytfgkgehlokabgaa
open Go.RowKit

theorem Own8.below {w w1 : World} {B : Nat} {v : Value} {l : List UInt8} (h : Own8 w B v l) (hb : Below w.heap.size w w1) : Own8 w1 B v l := by
  refine ⟨h.1, ?_⟩
  rcases h.2 with h0 | ⟨g, cap, cur, hv, hB, hh, hr⟩
  · exact .inl h0
  · exact .inr ⟨g, cap, cur, hv, hB, (hb.block g (Blk.lt (t := 5) (cs := cur) hh)).trans hh, hr⟩
theorem form_pos (p : Ky.Part) : 0 < (Ky.form p).length := List.length_pos_iff.2 (Ky.form_ne_nil p)
set_option maxRecDepth 100000 in
set_option maxHeartbeats 4000000 in
theorem joinr_any (ad : Option Addr) (n cap : Nat) (L : Nat → PV) (hn : n ≤ 1099511627776) (hOk : ∀ i, i < n → (L i).Ok) (hlen : (ks L n).length ≤ 1099511627776) (w : World) (hA : SliceIs w w.heap.size ad n L) :
    Calls Try.prog 13 #[.slice ad n cap] w fun e w' => e = .returned (.string ⟨(ks L n).toArray⟩) ∧ Below w.heap.size w w' := by
  have HA := Lib.hid hA
  have HOk := hide hOk
  have HL := Lib.hid hlen
  have h0 := Lib.hid (own8_zero w w.heap.size (Nat.le_refl _))
  clear hA hOk hlen
  go_enter Try.func13, Try.ntmps13
  go_wp2_with fail
  go_loopw [3, 9] (fun v i wr => ∃ k : Nat, k ≤ n ∧ i = .int .i64 k ∧ Hid (Own8 wr w.heap.size v (ks L k)) ∧ Hid (Below w.heap.size w wr)) (fun _ i _ => n - (intOf i).toNat)
  case atStart => exact ⟨0, by omega, rfl, h0, Lib.hid ((Below.refl _ _).alloc (Nat.le_refl _) _)⟩
  case round =>
    obtain ⟨k, hk, rfl, hown, HB⟩ := hrel
    clear h0
    by_cases hkn : k < n
    · have hkn2 : (k : Int) < (n : Int) := by omega
      obtain ⟨b, off, rfl, hblt, c0, c1, c2⟩ := (HA.out.below HB.out (Nat.le_refl _)).at_ k hkn
      have hok := Lib.hid (unhide HOk k hkn)
      have hkl := Lib.hid (ks_le L hk)
      have hkl2 := Lib.hid (ks_le L (show k + 1 ≤ n by omega))
      have hfin := Lib.hid (ks_succ L k)
      obtain ⟨p, hp⟩ : ∃ p, Hid (L k = p) := ⟨_, Lib.hid rfl⟩
      rw [hp.out] at c0 c1 c2 hok hfin
      have hf := hide fun W => form_any p hok.out W
      obtain ⟨num, m, s⟩ := p
      have hB0 : Hid (w.heap.size ≤ wr.heap.size) := Lib.hid HB.out.size
      clear hblt
      dsimp only at c0 c1 c2
      have hown2 := Lib.hid (hown.out.alloc (.cells #[.bool num, .int .i64 m, .string s] 31))
      have HB2 := Lib.hid (HB.out.alloc hB0.out (.cells #[.bool num, .int .i64 m, .string s] 31))
      go_wp2_with fail
      refine (unhide hf _).mono ?_
      rintro e w1 ⟨v2, rfl, hv2, hb1⟩
      have hown3 := Lib.hid (hown2.out.below hb1)
      have HB3 := Lib.hid (HB2.out.trans (hb1.mono HB2.out.size))
      have hB1 : Hid (w.heap.size ≤ w1.heap.size) := Lib.hid HB3.out.size
      have HV := Lib.hid hv2
      have hlt : Hid ((ks L k).length + (Ky.form (PV.toP ⟨num, m, s⟩)).length ≤ 140737488355328) := by
        have h1 := hkl2.out
        have h2 := HL.out
        rw [hfin.out, List.length_append] at h1
        exact Lib.hid (by omega)
      clear hv2 hb1 hf hown hown2 HB HB2 c0 c1 c2
      go_wp2_with (at_builtin; refine wpList_app8_own rfl _ _ rfl w.heap.size _ _ _ _ _ _ (by rfl) hown3.out (by rfl) HV.out (form_pos _) hlt.out hB1.out ?_; intro v3 w3 h3 g3)
      have HB4 := Lib.hid (g3.out.below _ HB3.out)
      have h4 : Hid (Own8 w3 w.heap.size v3 (ks L (k + 1))) := by rw [hfin.out]; exact h3
      go_roundw
      case rel => exact ⟨k + 1, by omega, by go_num, h4, HB4⟩
      case measure => simp [intOf]; omega
    · have hkn2 : ¬ (k : Int) < (n : Int) := by omega
      obtain rfl : k = n := by omega
      have hcv := hown.out.conv
      go_wp2_with fail
      go_ret
      exact ⟨rfl, HB.out⟩
set_option maxHeartbeats 4000000 in
theorem order_any (p q : PV) (w : World) :
    Calls Try.prog 20 #[.agg #[.bool p.num, .int .i64 p.n, .string p.s], .agg #[.bool q.num, .int .i64 q.n, .string q.s]] w fun e w' => e = .returned (.int .i64 (Ky.cmpP p.toP q.toP)) ∧ Below w.heap.size w w' := by
  obtain ⟨b, n, s⟩ := p
  obtain ⟨b', n', s'⟩ := q
  obtain ⟨r, hr⟩ : ∃ r, Hid (Ky.cmpP (PV.toP ⟨b, n, s⟩) (PV.toP ⟨b', n', s'⟩) = r) := ⟨_, Lib.hid rfl⟩
  rw [hr.out]
  cases b <;> cases b'
  · have HR : Hid (cmpS s.data.toList s'.data.toList = r) := hr
    clear hr
    cases h1 : Op.bytesLess s.data.toList s'.data.toList
    · cases h2 : Op.bytesLess s'.data.toList s.data.toList
      · have e := Ky.less_total _ _ h1 h2
        have e2 : s = s' := Go.WideShapes.bytes_inj e
        subst e2
        have hc : cmpS s.data.toList s.data.toList = 0 := by unfold cmpS; rw [h1]; simp
        rw [hc] at HR
        have f1 : Op.bytesLess s.toList s.toList = false := by rw [ByteArray.toList_eq]; exact h1
        clear h1 h2 e hc
        go_enter Try.func20, Try.ntmps20
        go_wp2_with fail
        go_ret
        exact ⟨by rw [← HR.out]; rfl, ((Below.refl _ _).alloc (Nat.le_refl _) _).alloc (by simp) _⟩
      · have hc : cmpS s.data.toList s'.data.toList = 1 := by unfold cmpS; rw [h1, h2]; simp
        rw [hc] at HR
        have f1 : Op.bytesLess s.toList s'.toList = false := by rw [ByteArray.toList_eq, ByteArray.toList_eq]; exact h1
        have f2 : (s.toList == s'.toList) = false := by
          rw [ByteArray.toList_eq, ByteArray.toList_eq]
          exact beq_eq_false_iff_ne.2 fun e => by rw [e, Ky.less_irrefl] at h2; cases h2
        clear h1 h2 hc
        go_enter Try.func20, Try.ntmps20
        go_wp2_with fail
        go_ret
        exact ⟨by rw [← HR.out]; rfl, ((Below.refl _ _).alloc (Nat.le_refl _) _).alloc (by simp) _⟩
    · have hc : cmpS s.data.toList s'.data.toList = -1 := by unfold cmpS; rw [h1]; simp
      rw [hc] at HR
      have f1 : Op.bytesLess s.toList s'.toList = true := by rw [ByteArray.toList_eq, ByteArray.toList_eq]; exact h1
      clear h1 hc
      go_enter Try.func20, Try.ntmps20
      go_wp2_with fail
      go_ret
      exact ⟨by rw [← HR.out]; rfl, ((Below.refl _ _).alloc (Nat.le_refl _) _).alloc (by simp) _⟩
  · have HR : Hid (1 = r) := hr
    go_enter Try.func20, Try.ntmps20
    go_wp2_with fail
    go_ret
    exact ⟨by rw [← HR.out]; rfl, ((Below.refl _ _).alloc (Nat.le_refl _) _).alloc (by simp) _⟩
  · have HR : Hid (-1 = r) := hr
    go_enter Try.func20, Try.ntmps20
    go_wp2_with fail
    go_ret
    exact ⟨by rw [← HR.out]; rfl, ((Below.refl _ _).alloc (Nat.le_refl _) _).alloc (by simp) _⟩
  · have HR : Hid (cmpI n n' = r) := hr
    clear hr
    rcases Int.lt_trichotomy n n' with h | h | h
    · have hc : cmpI n n' = -1 := by unfold cmpI; rw [if_pos h]
      rw [hc] at HR
      clear hc
      go_enter Try.func20, Try.ntmps20
      go_wp2_with fail
      go_ret
      exact ⟨by rw [← HR.out]; rfl, ((Below.refl _ _).alloc (Nat.le_refl _) _).alloc (by simp) _⟩
    · subst h
      have hc : cmpI n n = 0 := by unfold cmpI; rw [if_neg (by omega), if_neg (by omega)]
      rw [hc] at HR
      clear hc
      go_enter Try.func20, Try.ntmps20
      go_wp2_with fail
      go_ret
      exact ⟨by rw [← HR.out]; rfl, ((Below.refl _ _).alloc (Nat.le_refl _) _).alloc (by simp) _⟩
    · have hc : cmpI n n' = 1 := by unfold cmpI; rw [if_neg (by omega), if_pos h]
      rw [hc] at HR
      have h2 : ¬ n < n' := by omega
      clear hc
      go_enter Try.func20, Try.ntmps20
      go_wp2_with fail
      go_ret
      exact ⟨by rw [← HR.out]; rfl, ((Below.refl _ _).alloc (Nat.le_refl _) _).alloc (by simp) _⟩
set_option maxRecDepth 100000 in
set_option maxHeartbeats 4000000 in
theorem Comparer_any (ad bd : Option Addr) (na ca nb cb : Nat) (A B : Nat → PV) (hna : na ≤ 1099511627776) (hnb : nb ≤ 1099511627776) (w : World) (hA : SliceIs w w.heap.size ad na A) (hB : SliceIs w w.heap.size bd nb B) :
    Calls Try.prog 15 #[.slice ad na ca, .slice bd nb cb] w fun e w' => e = .returned (.int .i64 (Ky.cmpL (lst A na) (lst B nb))) ∧ Below w.heap.size w w' := by
  have HA := Lib.hid hA
  have HB := Lib.hid hB
  clear hA hB
  go_enter Try.func15, Try.ntmps15
  go_wp2_with fail
  go_loopw [9] (fun i wr => ∃ k : Nat, k ≤ na ∧ k ≤ nb ∧ i = .int .i64 k ∧ Hid (∀ i, i < k → Ky.cmpP (A i).toP (B i).toP = 0) ∧ Hid (Below w.heap.size w wr)) (fun i _ => na - (intOf i).toNat)
  case atStart => exact ⟨0, by omega, by omega, rfl, Lib.hid (fun i hi => by omega), Lib.hid (Below.refl _ _)⟩
  case round =>
    obtain ⟨k, hk, hkb, rfl, hall, HW⟩ := hrel
    by_cases hkn : k < na
    · have hkn2 : (k : Int) < (na : Int) := by omega
      by_cases he : k = nb
      · have he2 : ((k : Int) == (nb : Int)) = true := beq_iff_eq.2 (by omega)
        have HF : Hid (Ky.cmpL (lst A na) (lst B nb) = 1) := by
          have h1 := cmpL_end A B na nb (fun i hi => hall.out i (by omega))
          have h2 : cmpI na nb = 1 := by unfold cmpI; rw [if_neg (by omega), if_pos (by omega)]
          rw [h2] at h1
          exact Lib.hid h1
        clear he
        go_wp2_with fail
        go_ret
        exact ⟨by rw [HF.out]; rfl, HW.out⟩
      · have he2 : ((k : Int) == (nb : Int)) = false := beq_eq_false_iff_ne.2 (by omega)
        have hkb1 : k < nb := by omega
        have hkb2 : (k : Int) < (nb : Int) := by omega
        obtain ⟨b1, o1, rfl, hb1, c0, c1, c2⟩ := (HA.out.below HW.out (Nat.le_refl _)).at_ k (by omega)
        obtain ⟨b2, o2, rfl, hb2, d0, d1, d2⟩ := (HB.out.below HW.out (Nat.le_refl _)).at_ k (by omega)
        obtain ⟨r, hr⟩ : ∃ r, Hid (Ky.cmpP (A k).toP (B k).toP = r) := ⟨_, Lib.hid rfl⟩
        have hcmp := order_any (A k) (B k) wr.drew
        rw [hr.out] at hcmp
        have hcm := hide hcmp
        clear hcmp hb1 hb2 he
        go_wp2_with fail
        refine wp_region_still_tail 8 (by kernel_rfl) (by kernel_rfl) ?_
        simp only [List.take_succ_cons, List.take_zero, List.drop_succ_cons, List.drop_zero]
        change wpStill _ _ wr.drew (fun a' => wpList _ _ _ _ a' wr.drew) _ _
        still_step
        still_step
        still_step
        still_step
        still_step
        still_step
        still_step
        still_step
        refine wpStill_nil ?_
        go_wp2_with fail
        refine (unhide hcm).mono ?_
        rintro e w1 ⟨rfl, hb⟩
        have HW2 := Lib.hid (HW.out.trans ((show Below wr.heap.size wr w1 from ⟨hb.os, hb.tape, hb.output, hb.size, hb.block⟩).mono HW.out.size))
        clear hb hcm
        by_cases h0 : r = 0
        · subst h0
          have hall2 : Hid (∀ i, i < k + 1 → Ky.cmpP (A i).toP (B i).toP = 0) := Lib.hid fun i hi => by
            rcases (by omega : i < k ∨ i = k) with h | rfl
            · exact hall.out i h
            · exact hr.out
          go_wp2_with fail
          go_roundw
          case rel => exact ⟨k + 1, by omega, by omega, by go_num, hall2, HW2⟩
          case measure => simp [intOf]; omega
        · have h1 : (r != 0) = true := bne_iff_ne.2 h0
          have HF := Lib.hid (cmpL_at A B na nb k hall.out (by omega) (by omega) (by rw [hr.out]; exact h0))
          clear h0
          go_wp2_with fail
          go_ret
          exact ⟨by rw [HF.out, hr.out]; rfl, HW2.out⟩
    · have hkn2 : ¬ (k : Int) < (na : Int) := by omega
      obtain rfl : k = na := by omega
      have hF := cmpL_end A B k nb (fun i hi => hall.out i (by omega))
      by_cases hl : k < nb
      · have hl2 : (k : Int) < (nb : Int) := by omega
        have hc : cmpI k nb = -1 := by unfold cmpI; rw [if_pos (by omega)]
        rw [hc] at hF
        have HF := Lib.hid hF
        clear hF hc
        go_wp2_with fail
        go_ret
        exact ⟨by rw [HF.out]; rfl, HW.out⟩
      · have hl2 : ¬ (k : Int) < (nb : Int) := by omega
        have hc : cmpI k nb = 0 := by unfold cmpI; rw [if_neg (by omega), if_neg (by omega)]
        rw [hc] at hF
        have HF := Lib.hid hF
        clear hF hc
        go_wp2_with fail
        go_ret
        exact ⟨by rw [HF.out]; rfl, HW.out⟩
end Go.Proofs.Ytfgkgehlokabgaa
