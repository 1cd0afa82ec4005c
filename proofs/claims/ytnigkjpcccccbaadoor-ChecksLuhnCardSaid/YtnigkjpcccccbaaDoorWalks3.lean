/-
  Walks over the package checks and its reference, more: Luhn's digit.
-/
import Derived.Test.YtnigkjpcccccbaaDoorWalks2
namespace Go.Proofs.YtnigkjpcccccbaaDoor
open Go.RowKit

namespace Chk
theorem lsum_step (l : List UInt8) (j k : Nat) (h : j + 1 + k = l.length) (hj : j < l.length) : lsum (l.drop j) = lv (decide (k % 2 = 0)) l[j] + lsum (l.drop (j + 1)) := by
  have hk : (l.drop (j + 1)).length = k := by rw [List.length_drop]; omega
  rw [List.drop_eq_getElem_cons hj, lsum, hk]
theorem all_step (l : List UInt8) (j : Nat) (hj : j < l.length) : (l.drop j).all isDig = (isDig l[j] && (l.drop (j + 1)).all isDig) := by
  rw [List.drop_eq_getElem_cons hj, List.all_cons]
theorem ldig_iff (l : List UInt8) : ldig l = true ↔ l ≠ [] ∧ l.all isDig = true := by
  unfold ldig
  cases l <;> simp
theorem lv_t_lo (c : UInt8) (h : 2 * ((c.toNat : Int) - 48) ≤ 9) : lv true c = 2 * ((c.toNat : Int) - 48) := by unfold lv; rw [if_pos rfl, if_neg (by omega)]
theorem lv_t_hi (c : UInt8) (h : 9 < 2 * ((c.toNat : Int) - 48)) : lv true c = 2 * ((c.toNat : Int) - 48) - 9 := by unfold lv; rw [if_pos rfl, if_pos (by omega)]
theorem lv_f (c : UInt8) : lv false c = (c.toNat : Int) - 48 := by unfold lv; rw [if_neg (by decide)]
end Chk

set_option maxHeartbeats 2000000 in
theorem luhn_yes (s : ByteArray) (l : List UInt8) (hl : s.data.toList = l) (hs : s.size ≤ 1000000000000000) (hv : Chk.ldig l = true) (w : World) :
    Calls Tryd.prog 19 #[.string s] w fun e w' => e = .returned (.tuple #[.int .i64 (Chk.luhn l), .nilIface]) ∧ w = w' := by
  have hlen := size_of_data hl
  have hne : s.size ≠ 0 := fun h0 => ((Chk.ldig_iff _).1 hv).1 (List.eq_nil_of_length_eq_zero (by omega))
  have hem := str_not_empty hne
  have hal := ((Chk.ldig_iff _).1 hv).2
  have HA := Lib.hid hal
  have HL := Lib.hid hl
  have HN := Lib.hid hlen
  clear hv hal hl hlen
  go_enter Tryd.func19, Tryd.ntmps19
  go_wp2
  go_loop [4, 5, 6] (fun r d i => ∃ (jn k : Nat) (z m : Int) (b : Bool), jn + k ≤ s.size ∧ s.size ≤ jn + k ∧ z + 1 ≤ jn ∧ (jn : Int) ≤ z + 1 ∧ i = .int .i64 z ∧ d = .bool b ∧ r = .int .i64 m ∧ 0 ≤ m ∧ m ≤ 9 * k ∧ Hid (b = decide (k % 2 = 0) ∧ m = Chk.lsum (l.drop jn))) (fun _ _ i => (intOf i + 1).toNat)
  case atStart => exact ⟨s.size, 0, _, 0, true, by omega, by omega, by omega, by omega, rfl, rfl, rfl, by omega, by omega, Lib.hid ⟨rfl, by rw [← HN.out, List.drop_length]; rfl⟩⟩
  case round =>
    obtain ⟨jn, k, z, m, b, h1, h2, h3, h4, rfl, rfl, rfl, hm0, hm1, HR⟩ := hrel
    by_cases hz : 0 ≤ z
    · obtain ⟨j, rfl⟩ : ∃ j : Nat, z = j := ⟨z.toNat, by omega⟩
      have hj : j < s.size := by omega
      have hjl : j < l.length := by rw [HN.out]; exact hj
      have hg : l[j] = s[j]'hj := by have := HL.out; subst this; rfl
      have hdig : Chk.isDig l[j] = true := List.all_eq_true.1 HA.out _ (List.getElem_mem hjl)
      rw [hg] at hdig
      have hc := (Chk.isDig_iff _).1 hdig
      have hst := Chk.lsum_step l j k (by rw [HN.out]; omega) hjl
      rw [hg, show j + 1 = jn by omega, ← HR.out.2, ← HR.out.1] at hst
      have hpar : Hid ((!b) = decide ((k + 1) % 2 = 0)) := Lib.hid (by
        rw [HR.out.1]
        rcases Nat.mod_two_eq_zero_or_one k with e | e
        · rw [decide_eq_true e, decide_eq_false (by omega)]; rfl
        · rw [decide_eq_false (by omega), decide_eq_true (by omega)]; rfl)
      clear hg hjl hdig
      cases b
      · rw [Chk.lv_f] at hst
        have HS := Lib.hid hst
        clear hst
        go_wp2_with (go_at_call 24; refine (isdig_yes _ (by omega) _).mono ?_; rintro e w' ⟨rfl, rfl⟩)
        go_round
        case rel => exact ⟨j, k + 1, _, _, _, by omega, by omega, by omega, by omega, rfl, rfl, rfl, by omega, by omega, Lib.hid ⟨hpar.out, by rw [HS.out]; omega⟩⟩
        case measure => simp [intOf]
      · by_cases hx : 2 * (((s[j]'hj).toNat : Int) - 48) ≤ 9
        · rw [Chk.lv_t_lo _ hx] at hst
          have HS := Lib.hid hst
          clear hst
          go_wp2_with (go_at_call 24; refine (isdig_yes _ (by omega) _).mono ?_; rintro e w' ⟨rfl, rfl⟩)
          go_round
          case rel => exact ⟨j, k + 1, _, _, _, by omega, by omega, by omega, by omega, rfl, rfl, rfl, by omega, by omega, Lib.hid ⟨hpar.out, by rw [HS.out]; omega⟩⟩
          case measure => simp [intOf]
        · rw [Chk.lv_t_hi _ (by omega)] at hst
          have HS := Lib.hid hst
          clear hst
          go_wp2_with (go_at_call 24; refine (isdig_yes _ (by omega) _).mono ?_; rintro e w' ⟨rfl, rfl⟩)
          go_round
          case rel => exact ⟨j, k + 1, _, _, _, by omega, by omega, by omega, by omega, rfl, rfl, rfl, by omega, by omega, Lib.hid ⟨hpar.out, by rw [HS.out]; omega⟩⟩
          case measure => simp [intOf]
    · have HF : Hid (m = Chk.lsum l) := Lib.hid (by
        have := HR.out.2
        rwa [show jn = 0 by omega, List.drop_zero] at this)
      go_wp2
      go_ret2
      exact ⟨ret_int2 (by unfold Chk.luhn; rw [← HF.out]; omega), rfl⟩
set_option maxHeartbeats 2000000 in
theorem luhn_no (s : ByteArray) (l : List UInt8) (hl : s.data.toList = l) (hs : s.size ≤ 1000000000000000) (hv : Chk.ldig l = false) (t : TypeId) (x : Value) (w : World) (hcell : w.cell? ⟨1, 0, none⟩ = some (.iface t x)) :
    Calls Tryd.prog 19 #[.string s] w fun e w' => e = .returned (.tuple #[.int .i64 0, .iface t x]) ∧ ∃ n, w' = w.drewN n := by
  have hlen := size_of_data hl
  by_cases h0 : s.size = 0
  · have hem := str_empty h0
    clear h0 hl hv hlen
    go_enter Tryd.func19, Tryd.ntmps19
    go_wp2
    go_quiet (fail)
    go_wp2
    go_ret2
    exact ⟨rfl, _, rfl⟩
  · have hem := str_not_empty h0
    have hal : l.all Chk.isDig = false := by
      cases h : l.all Chk.isDig
      · rfl
      · rw [(Chk.ldig_iff l).2 ⟨fun e => h0 (by rw [← hlen, e]; rfl), h⟩] at hv
        cases hv
    have HA := Lib.hid hal
    have HL := Lib.hid hl
    have HN := Lib.hid hlen
    clear hv hal hl hlen
    go_enter Tryd.func19, Tryd.ntmps19
    go_wp2
    go_loop [4, 5, 6] (fun r d i => ∃ (jn k : Nat) (z m : Int) (b : Bool), jn + k ≤ s.size ∧ s.size ≤ jn + k ∧ z + 1 ≤ jn ∧ (jn : Int) ≤ z + 1 ∧ i = .int .i64 z ∧ d = .bool b ∧ r = .int .i64 m ∧ 0 ≤ m ∧ m ≤ 9 * k ∧ Hid ((l.drop jn).all Chk.isDig = true)) (fun _ _ i => (intOf i + 1).toNat)
    case atStart => exact ⟨s.size, 0, _, 0, true, by omega, by omega, by omega, by omega, rfl, rfl, rfl, by omega, by omega, Lib.hid (by rw [← HN.out, List.drop_length]; rfl)⟩
    case round =>
      obtain ⟨jn, k, z, m, b, h1, h2, h3, h4, rfl, rfl, rfl, hm0, hm1, HR⟩ := hrel
      have hz : 0 ≤ z := by
        rcases Int.lt_or_le z 0 with h | h
        · exfalso
          have := HR.out
          rw [show jn = 0 by omega, List.drop_zero, HA.out] at this
          cases this
        · exact h
      obtain ⟨j, rfl⟩ : ∃ j : Nat, z = j := ⟨z.toNat, by omega⟩
      have hj : j < s.size := by omega
      have hjl : j < l.length := by rw [HN.out]; exact hj
      have hg : l[j] = s[j]'hj := by have := HL.out; subst this; rfl
      have hst := Chk.all_step l j hjl
      rw [hg, show j + 1 = jn by omega, HR.out, Bool.and_true] at hst
      have hlt := (s[j]'hj).toNat_lt
      cases hdig : Chk.isDig (s[j]'hj)
      · have hc : ((s[j]'hj).toNat : Int) < 48 ∨ 57 < ((s[j]'hj).toNat : Int) := by
          have : ¬ (48 ≤ ((s[j]'hj).toNat : Int) ∧ ((s[j]'hj).toNat : Int) ≤ 57) := fun h => by rw [(Chk.isDig_iff _).2 h] at hdig; cases hdig
          omega
        have HC := Lib.hid hc
        clear hg hjl hdig hst hc
        go_wp2_with (go_at_call 24; refine (isdig_no _ HC.out _).mono ?_; rintro e w' ⟨rfl, rfl⟩)
        go_quiet (fail)
        go_wp2
        go_ret2
        exact ⟨rfl, _, rfl⟩
      · have hc := (Chk.isDig_iff _).1 hdig
        rw [hdig] at hst
        have HS := Lib.hid hst
        clear hg hjl hdig hst
        cases b
        · go_wp2_with (go_at_call 24; refine (isdig_yes _ (by omega) _).mono ?_; rintro e w' ⟨rfl, rfl⟩)
          go_round
          case rel => exact ⟨j, k + 1, _, _, _, by omega, by omega, by omega, by omega, rfl, rfl, rfl, by omega, by omega, HS⟩
          case measure => simp [intOf]
        · by_cases hx : 2 * (((s[j]'hj).toNat : Int) - 48) ≤ 9
          all_goals
            go_wp2_with (go_at_call 24; refine (isdig_yes _ (by omega) _).mono ?_; rintro e w' ⟨rfl, rfl⟩)
            go_round
            case rel => exact ⟨j, k + 1, _, _, _, by omega, by omega, by omega, by omega, rfl, rfl, rfl, by omega, by omega, HS⟩
            case measure => simp [intOf]

def lcode (l : List UInt8) : Int := if Chk.ldig l = true then 0 else 7
def lnum (l : List UInt8) : Int := if Chk.ldig l = true then Chk.luhn l else 0
theorem lcode_yes {l : List UInt8} (h : Chk.ldig l = true) : lcode l = 0 := by unfold lcode; rw [if_pos h]
theorem lcode_no {l : List UInt8} (h : Chk.ldig l = false) : lcode l = 7 := by unfold lcode; rw [if_neg (by rw [h]; simp)]
theorem lnum_yes {l : List UInt8} (h : Chk.ldig l = true) : lnum l = Chk.luhn l := by unfold lnum; rw [if_pos h]
theorem lnum_no {l : List UInt8} (h : Chk.ldig l = false) : lnum l = 0 := by unfold lnum; rw [if_neg (by rw [h]; simp)]

set_option maxHeartbeats 2000000 in
theorem luhnr_any (s : ByteArray) (l : List UInt8) (hl : s.data.toList = l) (hs : s.size ≤ 1000000000000000) (w : World) :
    Calls Tryd.prog 20 #[.string s] w fun e w' => e = .returned (.tuple #[.int .i64 (lnum l), .int .i64 (lcode l)]) ∧ w = w' := by
  have hlen := size_of_data hl
  by_cases h0 : s.size = 0
  · have hb : Chk.ldig l = false := by rw [List.eq_nil_of_length_eq_zero (l := l) (by omega)]; rfl
    have H1 := Lib.hid (lnum_no hb)
    have H2 := Lib.hid (lcode_no hb)
    have hz : ((s.size : Int) == 0) = true := by rw [beq_iff_eq]; omega
    clear h0 hl hlen hb
    go_enter Tryd.func20, Tryd.ntmps20
    go_wp2
    go_ret2
    exact ⟨ret_ii H1.out.symm H2.out.symm, rfl⟩
  · have hz : ((s.size : Int) == 0) = false := by rw [beq_eq_false_iff_ne]; omega
    have HL := Lib.hid hl
    have HN := Lib.hid hlen
    clear hl hlen
    go_enter Tryd.func20, Tryd.ntmps20
    go_wp2
    go_loop [4, 5] (fun r i => ∃ (k : Nat) (m : Int), k ≤ s.size ∧ i = .int .i64 k ∧ r = .int .i64 m ∧ 0 ≤ m ∧ m ≤ 9 * k ∧ Hid ((l.take k).all Chk.isDig = true ∧ m + Chk.lsum (l.drop k) = Chk.lsum l)) (fun _ i => s.size - (intOf i).toNat)
    case atStart => exact ⟨0, 0, Nat.zero_le _, rfl, rfl, by omega, by omega, Lib.hid ⟨rfl, by rw [List.drop_zero]; omega⟩⟩
    case round =>
      obtain ⟨k, m, hk, rfl, rfl, hm0, hm1, HR⟩ := hrel
      by_cases hlt : k < s.size
      · have hc := (s[k]'hlt).toNat_lt
        have hkl : k < l.length := by rw [HN.out]; exact hlt
        have hgk : l[k] = s[k]'hlt := by have := HL.out; subst this; rfl
        obtain ⟨q, hq⟩ : ∃ q, k + 1 + q = l.length := ⟨l.length - (k + 1), by omega⟩
        have hst := Chk.lsum_step l k q hq hkl
        have hqs : k + 1 + q = s.size := by rw [← HN.out]; exact hq
        have htk := Chk.all_take Chk.isDig l k hkl
        rw [hgk, HR.out.1, Bool.true_and] at htk
        rw [hgk] at hst
        cases hdig : Chk.isDig (s[k]'hlt)
        · have HB : Hid (Chk.ldig l = false) := Lib.hid (by
            cases hv : Chk.ldig l
            · rfl
            · have := ((Chk.ldig_iff _).1 hv).2
              rw [Chk.all_bad _ _ k hkl (by rw [hgk]; exact hdig)] at this
              cases this)
          have hcn : ¬ (48 ≤ ((s[k]'hlt).toNat : Int) ∧ ((s[k]'hlt).toNat : Int) ≤ 57) := fun h => by rw [(Chk.isDig_iff _).2 h] at hdig; cases hdig
          clear hgk hkl hq hst hqs htk hdig
          by_cases hcap : 65 ≤ ((s[k]'hlt).toNat : Int) ∧ ((s[k]'hlt).toNat : Int) ≤ 90
          · go_wp2_with (go_at_call 25; refine (value_cap _ (by omega) _).mono ?_; rintro e w' ⟨rfl, rfl⟩)
            go_ret2
            exact ⟨ret_ii (lnum_no HB.out).symm (lcode_no HB.out).symm, rfl⟩
          · have H1 := Lib.hid (show ((s[k]'hlt).toNat : Int) < 48 ∨ 57 < ((s[k]'hlt).toNat : Int) by omega)
            have H2 := Lib.hid (show ((s[k]'hlt).toNat : Int) < 65 ∨ 90 < ((s[k]'hlt).toNat : Int) by omega)
            clear hcn hcap
            go_wp2_with (go_at_call 25; refine (value_no _ H1.out H2.out _).mono ?_; rintro e w' ⟨rfl, rfl⟩)
            go_ret2
            exact ⟨ret_ii (lnum_no HB.out).symm (lcode_no HB.out).symm, rfl⟩
        · have hcd := (Chk.isDig_iff _).1 hdig
          rw [hdig] at htk
          have HT := Lib.hid htk
          rcases Nat.mod_two_eq_zero_or_one q with e | e
          · rw [decide_eq_true e] at hst
            have hpar : (((s.size : Int) - k) % 2 == 1) = true := by rw [beq_iff_eq]; omega
            clear hgk hkl hq htk hdig
            by_cases hx : 2 * (((s[k]'hlt).toNat : Int) - 48) ≤ 9
            · rw [Chk.lv_t_lo _ hx] at hst
              have HS := Lib.hid hst
              clear hst e hqs
              go_wp2_with (go_at_call 25; refine (value_dig _ (by omega) _).mono ?_; rintro e w' ⟨rfl, rfl⟩)
              go_round
              case rel => exact ⟨k + 1, _, by omega, by go_num, rfl, by omega, by omega, Lib.hid ⟨HT.out, by have h1 := HS.out; have h2 := HR.out.2; omega⟩⟩
              case measure => simp [intOf]; omega
            · rw [Chk.lv_t_hi _ (by omega)] at hst
              have HS := Lib.hid hst
              clear hst e hqs
              go_wp2_with (go_at_call 25; refine (value_dig _ (by omega) _).mono ?_; rintro e w' ⟨rfl, rfl⟩)
              go_round
              case rel => exact ⟨k + 1, _, by omega, by go_num, rfl, by omega, by omega, Lib.hid ⟨HT.out, by have h1 := HS.out; have h2 := HR.out.2; omega⟩⟩
              case measure => simp [intOf]; omega
          · rw [decide_eq_false (by omega), Chk.lv_f] at hst
            have hpar : (((s.size : Int) - k) % 2 == 1) = false := by rw [beq_eq_false_iff_ne]; omega
            have HS := Lib.hid hst
            clear hgk hkl hq htk hdig hst e hqs
            go_wp2_with (go_at_call 25; refine (value_dig _ (by omega) _).mono ?_; rintro e w' ⟨rfl, rfl⟩)
            go_round
            case rel => exact ⟨k + 1, _, by omega, by go_num, rfl, by omega, by omega, Lib.hid ⟨HT.out, by have h1 := HS.out; have h2 := HR.out.2; omega⟩⟩
            case measure => simp [intOf]; omega
      · have HA : Hid (Chk.ldig l = true ∧ m = Chk.lsum l) := Lib.hid (by
          have h1 := HR.out
          have hN := HN.out
          rw [List.take_of_length_le (by omega), List.drop_eq_nil_of_le (by omega)] at h1
          refine ⟨(Chk.ldig_iff _).2 ⟨fun e => h0 (by rw [← hN, e]; rfl), h1.1⟩, ?_⟩
          have := h1.2
          simp only [Chk.lsum] at this
          omega)
        go_wp2
        go_ret2
        exact ⟨ret_ii (by rw [lnum_yes HA.out.1]; unfold Chk.luhn; rw [← HA.out.2]; omega) (lcode_yes HA.out.1).symm, rfl⟩
end Go.Proofs.YtnigkjpcccccbaaDoor
