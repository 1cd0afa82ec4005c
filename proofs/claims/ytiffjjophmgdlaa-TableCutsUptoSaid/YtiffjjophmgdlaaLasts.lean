/-
  Layer 11: lasts: just the last row of each key is there.
-/
import Derived.Test.YtiffjjophmgdlaaDel
import Derived.Test.YtiffjjophmgdlaaOf
namespace Go.Proofs.Ytiffjjophmgdlaa
open Go.RowKit Tb
attribute [local go_sem ↓] Go.wp_at_zero Go.wp_at_succ

def muOf (v : Value) : Nat := (intOf v + 1).toNat
/-- Where the loop of lasts stands. -/
structure La (w wr : World) (bc : Nat) (l : List Rw) (k : Nat) (c : Tr) : Prop where
  tbl : TblAt wr bc c
  out : Out l k c
  cnt : c.cnt ≤ 20001
  sz : Sz c.ino
  below : Below w.heap.size w wr
theorem La.next {w wr w' : World} {bc k : Nat} {l : List Rw} {c : Tr} {r : Rw} (h : La w wr bc l (k + 1) c) (hr : l[k]? = some r) (ht : TblAt w' bc (dele c r.1)) (hu : Upd (fun j => j = bc) wr w') (hb : w.heap.size ≤ bc) : La w w' bc l k (dele c r.1) :=
  ⟨ht, out_step h.out h.tbl.sorted hr, Nat.le_trans (dele_cnt _ _) h.cnt, sz_dele h.tbl.sorted h.sz, h.below.trans (hu.below w.heap.size h.below.size (fun j e => by rw [e]; exact hb))⟩
set_option maxRecDepth 100000 in
set_option maxHeartbeats 8000000 in
theorem lasts_any (b : Nat) (ad : Option Addr) (n cap : Nat) (l : List Rw) (w : World) (hT : TblAt w b (trOf l)) (hn : l.length = n) (hr : ER.Rd w w.heap.size ad l) (hlen : n ≤ 20001) (hs : Sz l) :
    Calls Try.prog 17 #[.pointer (some ⟨b, 0, none⟩), .slice ad n cap] w fun e w' => e = .returned (.bool true) ∧ Below w.heap.size w w' := by
  have HT := Lib.hid hT
  have HN := Lib.hid hn
  have HR := Lib.hid hr
  have HS := Lib.hid hs
  have hc0 : Hid ((trOf l).cnt ≤ 20001) := Lib.hid (Nat.le_trans (of_cnt l) (by omega))
  have hs0 : Hid (Sz (trOf l).ino) := Lib.hid (fun r h => hs r (of_mem l r (by rwa [(of_ino l).1] at h)))
  have hst0 : Hid (Out l n (trOf l)) := by rw [← hn]; exact Lib.hid (out_start l)
  clear hT hn hr hs
  go_enter Try.func17, Try.ntmps17
  go_wp2_with fail
  refine (clone_tbl b (trOf l) w HT.out).mono ?_
  rintro e w1 ⟨bc, rfl, hbc, hTc, hb⟩
  have HL1 : Hid (La w w1 bc l n (trOf l)) := Lib.hid ⟨hTc, hst0.out, hc0.out, hs0.out, hb⟩
  have HBC := Lib.hid hbc
  clear hTc hb hbc
  go_wp2_with fail
  go_loopw [6] (fun i wr => ∃ (k : Nat) (c : Tr) (z : Int), k ≤ n ∧ i = .int .i64 z ∧ z = (k : Int) - 1 ∧ Hid (La w wr bc l k c)) (fun i _ => muOf i)
  case atStart => exact ⟨n, trOf l, _, Nat.le_refl _, rfl, rfl, HL1⟩
  case round =>
    obtain ⟨k, c, z, hk, rfl, hz, hL⟩ := hrel
    clear HL1
    have HTr := Lib.hid (HT.out.below hL.out.below)
    cases k with
    | zero =>
      have hnz : ¬ (0 : Int) ≤ z := by omega
      clear hz
      have he := out_end hL.out.out
      have hc1 : Hid (c.cnt = 0) := Lib.hid (by rw [cnt_eq, he]; rfl)
      have hc2 : Hid (bts c.ino = 0) := Lib.hid (by rw [he]; rfl)
      have hp := of_pos l
      rw [HN.out] at hp
      obtain ⟨q, hq⟩ : ∃ q, Hid ((trOf l).cnt = q) := ⟨_, Lib.hid rfl⟩
      rw [hq.out] at hp
      have hd : (decide (0 < q) == decide (0 < n)) = true := by
        rw [beq_iff_eq, decide_eq_decide]
        exact hp
      clear he hp
      go_wp2_with fail
      refine (len_tbl bc c wr hL.out.tbl).mono ?_
      rintro e w' ⟨rfl, rfl⟩
      rw [hc1.out]
      go_wp2_with fail
      refine (bytes_tbl bc c wr hL.out.tbl).mono ?_
      rintro e w' ⟨rfl, rfl⟩
      rw [hc2.out]
      go_wp2_with fail
      refine (len_tbl b (trOf l) wr HTr.out).mono ?_
      rintro e w' ⟨rfl, rfl⟩
      rw [hq.out]
      go_wp2_with fail
      go_ret
      exact ⟨rfl, hL.out.below⟩
    | succ k =>
      obtain rfl : z = (k : Int) := by omega
      clear hz
      have hkn : (k : Int) < (n : Int) := by omega
      have HK := Lib.hid hk
      clear hk
      obtain ⟨r, hr⟩ : ∃ r, Hid (l[k]? = some r) := ⟨l[k]'(by have := HK.out; rw [HN.out]; omega), Lib.hid (by simp)⟩
      obtain ⟨b1, o1, rfl, hl1, c0, c1⟩ := rdR (HR.out.below hL.out.below (Nat.le_refl _)) k r hr.out
      obtain ⟨o, hf, hcf⟩ := out_find hL.out.out hr.out
      have hF := Lib.hid hf
      clear hl1 hf
      rcases hcf with hcf | ⟨hcf, hov⟩
      · have hC := Lib.hid hcf
        clear hcf
        go_wp2_with fail
        refine (get_tbl bc c r.1 wr hL.out.tbl).mono ?_
        rintro e w' ⟨rfl, rfl⟩
        rw [hC.out]
        simp only [foundV, Option.getD_none, Option.isSome_none]
        go_wp2_with fail
        refine (get_tbl b (trOf l) r.1 wr HTr.out).mono ?_
        rintro e w' ⟨rfl, rfl⟩
        rw [hF.out]
        simp only [foundV, Option.getD_some, Option.isSome_some]
        go_wp2_with fail
        refine (delete_tbl bc c r.1 wr hL.out.tbl hL.out.sz hL.out.cnt).mono ?_
        rintro e w3 ⟨rfl, hT3, hU3⟩
        have HL3 := Lib.hid (hL.out.next hr.out hT3 hU3 HBC.out)
        clear hT3 hU3
        go_wp2_with fail
        go_roundw
        case rel => exact ⟨k, _, _, by have := HK.out; omega, rfl, by omega, HL3⟩
        case measure => simp [muOf, intOf]
      · have hC := Lib.hid hcf
        subst hov
        clear hcf
        go_wp2_with fail
        refine (get_tbl bc c r.1 wr hL.out.tbl).mono ?_
        rintro e w' ⟨rfl, rfl⟩
        rw [hC.out]
        simp only [foundV, Option.getD_some, Option.isSome_some]
        go_wp2_with fail
        refine (get_tbl b (trOf l) r.1 wr HTr.out).mono ?_
        rintro e w' ⟨rfl, rfl⟩
        rw [hF.out]
        simp only [foundV, Option.getD_some, Option.isSome_some]
        go_wp2_with fail
        refine (delete_tbl bc c r.1 wr hL.out.tbl hL.out.sz hL.out.cnt).mono ?_
        rintro e w3 ⟨rfl, hT3, hU3⟩
        have HL3 := Lib.hid (hL.out.next hr.out hT3 hU3 HBC.out)
        clear hT3 hU3
        go_wp2_with fail
        go_roundw
        case rel => exact ⟨k, _, _, by have := HK.out; omega, rfl, by omega, HL3⟩
        case measure => simp [muOf, intOf]
end Go.Proofs.Ytiffjjophmgdlaa
