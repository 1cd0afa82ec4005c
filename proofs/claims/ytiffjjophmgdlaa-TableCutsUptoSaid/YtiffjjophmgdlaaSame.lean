/-
  Layer 11: same, lives.
-/
import Derived.Test.YtiffjjophmgdlaaLst
import Derived.BigQuiet
namespace Go.Proofs.Ytiffjjophmgdlaa
open Go.RowKit Tb
attribute [local go_sem ↓] Go.wp_at_zero Go.wp_at_succ

theorem run_neq_row (r : Rw) (W : World) : (binOp .neq 25 (.agg #[.string r.1, .string r.2]) (.agg #[.string r.1, .string r.2])).run Try.prog W = .ok (.bool false) W := by
  simp [go_sem]
set_option maxRecDepth 100000 in
set_option maxHeartbeats 4000000 in
theorem same_yes (ad bd : Option Addr) (n ca cb : Nat) (l : List Rw) (w : World) (ha : ER.Rd w w.heap.size ad l) (hb : ER.Rd w w.heap.size bd l) (hn : l.length = n) (hlen : n ≤ 1073741824) :
    Calls Try.prog 7 #[.slice ad n ca, .slice bd n cb] w fun e w' => e = .returned (.bool true) ∧ Below w.heap.size w w' := by
  have HA := Lib.hid ha
  have HB := Lib.hid hb
  have HN := Lib.hid hn
  clear ha hb hn
  go_enter Try.func7, Try.ntmps7
  go_wp2_with fail
  go_loopw [13] (fun i wr => ∃ k : Nat, k ≤ n ∧ i = .int .i64 k ∧ Hid (Below w.heap.size w wr)) (fun i _ => n - (intOf i).toNat)
  case atStart => exact ⟨0, Nat.zero_le _, rfl, Lib.hid (Below.refl _ _)⟩
  case round =>
    obtain ⟨k, hk, rfl, hW⟩ := hrel
    by_cases hkn : k < n
    · have hkn2 : (k : Int) < (n : Int) := by omega
      obtain ⟨r, hr⟩ : ∃ r, Hid (l[k]? = some r) := ⟨l[k]'(by rw [HN.out]; exact hkn), Lib.hid (by simp)⟩
      obtain ⟨b1, o1, rfl, hl1, c0, c1⟩ := rdR (HA.out.below hW.out (Nat.le_refl _)) k r hr.out
      obtain ⟨b2, o2, rfl, hl2, d0, d1⟩ := rdR (HB.out.below hW.out (Nat.le_refl _)) k r hr.out
      have hne := run_neq_row r
      clear hl1 hl2
      go_wp2_with fail
      go_quiet (fail)
      go_wp2_with fail
      go_roundw
      case rel => exact ⟨k + 1, by omega, by go_num, Lib.hid (by first | exact hW.out | exact ⟨hW.out.os, hW.out.tape, hW.out.output, hW.out.size, hW.out.block⟩)⟩
      case measure => simp [intOf]; omega
    · have hkn2 : ¬ (k : Int) < (n : Int) := by omega
      obtain rfl : k = n := by omega
      go_wp2_with fail
      go_ret
      exact ⟨rfl, hW.out⟩
def lvs : List Rw := [(⟨#[98]⟩, ⟨#[49]⟩), (⟨#[97]⟩, ⟨#[50]⟩), (⟨#[98]⟩, ⟨#[51]⟩)]
theorem ref_lvs : refOf lvs = [(⟨#[97]⟩, ⟨#[50]⟩), (⟨#[98]⟩, ⟨#[51]⟩)] := by kernel_rfl
set_option maxRecDepth 100000 in
set_option maxHeartbeats 4000000 in
theorem lives_any (w : World) : Calls Try.prog 5 #[] w fun e w' => e = .returned (.bool true) ∧ Below w.heap.size w w' := by
  obtain ⟨W1, hW1⟩ : ∃ W1, Hid (w.alloc (.cells #[.string ⟨#[98]⟩, .string ⟨#[49]⟩, .string ⟨#[97]⟩, .string ⟨#[50]⟩, .string ⟨#[98]⟩, .string ⟨#[51]⟩] 25) = W1) := ⟨_, Lib.hid rfl⟩
  have ho : Hid (ER.Own W1 w.heap.size (.slice (some ⟨w.heap.size, 0, none⟩) 3 3) lvs) := by
    rw [← hW1.out]
    exact Lib.hid (Elt.Own.lit (E := ER) (n := 3) w.heap.size (Nat.le_refl _) rfl (by omega) _ rfl)
  have hb : Hid (Below w.heap.size w W1) := by rw [← hW1.out]; exact Lib.hid ((Below.refl _ _).alloc (Nat.le_refl _) _)
  have hino : Hid ((trOf lvs).ino = [(⟨#[97]⟩, ⟨#[50]⟩), (⟨#[98]⟩, ⟨#[51]⟩)]) := Lib.hid ((of_ino lvs).1.trans ref_lvs)
  have hcn : Hid ((trOf lvs).cnt = 2) := Lib.hid (by rw [cnt_eq, hino.out]; rfl)
  have hsz : Hid (Sz lvs) := Lib.hid (fun r hr => by
    simp only [lvs, List.mem_cons, List.not_mem_nil, or_false] at hr
    rcases hr with rfl | rfl | rfl <;> exact ⟨by decide, by decide⟩)
  go_enter Try.func5, Try.ntmps5
  go_wp2_with fail
  rw [hW1.out]
  refine (of_any _ 3 3 lvs W1 rfl ho.out.rd (by omega) hsz.out).mono ?_
  rintro e w2 ⟨b, rfl, hbb, hT, hb2⟩
  have HB2 := Lib.hid (hb.out.trans (hb2.mono hb.out.size))
  have HT := Lib.hid hT
  clear hT hb2
  go_wp2_with fail
  refine (rows_any b (trOf lvs) w2 HT.out (by rw [hcn.out]; omega)).mono ?_
  rintro e w3 ⟨ad, n, cap, rfl, hn, hnc, ho3, hb3⟩
  rw [hino.out] at ho3 hn
  obtain rfl : n = 2 := hn.symm
  obtain ⟨gb, off, rfl, hglt, c0, c1⟩ := rdR ho3.rd 0 _ rfl
  obtain ⟨gb', off', e', hglt', d0, d1⟩ := rdR ho3.rd 1 _ rfl
  simp only [Option.some.injEq, Addr.mk.injEq, and_true] at e'
  obtain ⟨rfl, rfl⟩ := e'
  have c0' : w3.cell? ⟨gb, off, none⟩ = some (.string ⟨#[97]⟩) := by simpa using c0
  have d1' : w3.cell? ⟨gb, off + 2 + 1, none⟩ = some (.string ⟨#[51]⟩) := by simpa using d1
  have d1'' : w3.cell? ⟨gb, off + 3, none⟩ = some (.string ⟨#[51]⟩) := d1'
  clear c0 c1 d0 d1
  have HT3 := Lib.hid (HT.out.below hb3)
  have HB3 := Lib.hid (HB2.out.trans (hb3.mono HB2.out.size))
  have hbt : Hid (bts (trOf lvs).ino = 4) := Lib.hid (by rw [hino.out]; rfl)
  clear ho3 hb3
  go_wp2_with fail
  refine (len_tbl b (trOf lvs) w3 HT3.out).mono ?_
  rintro e w' ⟨rfl, rfl⟩
  rw [hcn.out]
  go_wp2_with fail
  refine (bytes_tbl b (trOf lvs) w3 HT3.out).mono ?_
  rintro e w' ⟨rfl, rfl⟩
  rw [hbt.out]
  go_wp2_with fail
  go_ret
  exact ⟨rfl, HB3.out⟩
end Go.Proofs.Ytiffjjophmgdlaa
