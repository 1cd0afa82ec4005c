/-
  Walks over the package checks and its reference: rests, check digits, Luhn's digit.
-/
import Derived.Test.YtnigkjpcccccbaaDoorProg
import Derived.Test.YtnigkjpcccccbaaDoorPlain
import Derived.WalkKit
import Derived.Below
import Derived.Lib.Hide
import Derived.Lib.Strings
import Derived.IntWalk
import Derived.KernelRfl
import Derived.BigQuiet
import Derived.Deep.QuietTactic
import Derived.RegionTactic
import Derived.Outline
import Derived.WalkLawsBesides
namespace Go.Proofs.YtnigkjpcccccbaaDoor
open Go.RowKit

theorem ret_int {k : IntKind} {a b : Int} (h : a = b) : Ending.returned (.int k a) = .returned (.int k b) := by rw [h]
theorem ret_bool {a b : Bool} (h : a = b) : Ending.returned (.bool a) = .returned (.bool b) := by rw [h]
theorem ret_int2 {k : IntKind} {a b : Int} {v : Value} (h : a = b) : Ending.returned (.tuple #[.int k a, v]) = .returned (.tuple #[.int k b, v]) := by rw [h]
theorem below_drewN {B : Nat} {a w : World} (h : Below B a w) (n : Nat) : Below B a (w.drewN n) := ⟨h.os, h.tape, h.output, h.size, h.block⟩

theorem isdig_yes (c : Int) (h : 48 ≤ c ∧ c ≤ 57) (w : World) : Calls Tryd.prog 24 #[.int .u8 c] w fun e w' => e = .returned (.bool true) ∧ w = w' := by
  go_enter Tryd.func24, Tryd.ntmps24
  go_wp2
  go_ret
  exact ⟨rfl, rfl⟩
theorem isdig_no (c : Int) (h : c < 48 ∨ 57 < c) (w : World) : Calls Tryd.prog 24 #[.int .u8 c] w fun e w' => e = .returned (.bool false) ∧ w = w' := by
  rcases h with h | h
  · go_enter Tryd.func24, Tryd.ntmps24
    go_wp2
    go_ret
    exact ⟨rfl, rfl⟩
  · go_enter Tryd.func24, Tryd.ntmps24
    go_wp2
    go_ret
    exact ⟨ret_bool (by simp; omega), rfl⟩
theorem str_empty {s : ByteArray} (h : s.size = 0) : s.toList.isEmpty = true := by
  rw [Lib.toList_data]
  have : s.data.toList.length = 0 := by simpa using h
  rw [List.isEmpty_iff]
  exact List.eq_nil_of_length_eq_zero this
theorem str_not_empty {s : ByteArray} (h : s.size ≠ 0) : s.toList.isEmpty = false := by
  rw [Lib.toList_data]
  have : s.data.toList.length ≠ 0 := by simpa using h
  cases hd : s.data.toList with
  | nil => rw [hd] at this; simp at this
  | cons => rfl

namespace Chk
theorem valid_iff (l : List UInt8) : valid l = true ↔ l ≠ [] ∧ l.all ok = true := by
  unfold valid
  cases l <;> simp
theorem all_take (f : UInt8 → Bool) (l : List UInt8) (k : Nat) (h : k < l.length) : (l.take (k + 1)).all f = ((l.take k).all f && f l[k]) := by
  rw [List.take_succ_eq_append_getElem h, List.all_append]
  simp
theorem all_bad (f : UInt8 → Bool) (l : List UInt8) (k : Nat) (h : k < l.length) (hb : f l[k] = false) : l.all f = false := by
  cases hl : l.all f
  · rfl
  · have := List.all_eq_true.1 hl l[k] (List.getElem_mem h)
    rw [hb] at this
    cases this
theorem fold_take (l : List UInt8) (k : Nat) (h : k < l.length) : fold 0 (l.take (k + 1)) = step (fold 0 (l.take k)) l[k] := by
  rw [List.take_succ_eq_append_getElem h, fold_snoc]
theorem step_dig (r : Int) (c : UInt8) (h : 48 ≤ (c.toNat : Int) ∧ (c.toNat : Int) ≤ 57) : step r c = (10 * r + ((c.toNat : Int) - 48)) % 97 := by
  unfold step; rw [if_pos ((isDig_iff c).2 h)]
theorem step_cap (r : Int) (c : UInt8) (h : 65 ≤ (c.toNat : Int) ∧ (c.toNat : Int) ≤ 90) : step r c = (100 * r + ((c.toNat : Int) - 65) + 10) % 97 := by
  unfold step
  rw [if_neg (by rw [isDig_iff]; omega)]
  congr 1
  omega
theorem ok_dig (c : UInt8) (h : 48 ≤ (c.toNat : Int) ∧ (c.toNat : Int) ≤ 57) : ok c = true := by unfold ok; rw [(isDig_iff c).2 h]; rfl
theorem ok_cap (c : UInt8) (h : 65 ≤ (c.toNat : Int) ∧ (c.toNat : Int) ≤ 90) : ok c = true := by unfold ok; rw [(isCap_iff c).2 h]; simp
theorem ok_cases (c : UInt8) : (48 ≤ (c.toNat : Int) ∧ (c.toNat : Int) ≤ 57) ∨ (65 ≤ (c.toNat : Int) ∧ (c.toNat : Int) ≤ 90) ∨ (((c.toNat : Int) < 48 ∨ 57 < (c.toNat : Int)) ∧ ((c.toNat : Int) < 65 ∨ 90 < (c.toNat : Int)) ∧ ok c = false) := by
  by_cases h1 : 48 ≤ (c.toNat : Int) ∧ (c.toNat : Int) ≤ 57
  · exact .inl h1
  · by_cases h2 : 65 ≤ (c.toNat : Int) ∧ (c.toNat : Int) ≤ 90
    · exact .inr (.inl h2)
    · refine .inr (.inr ⟨by omega, by omega, ?_⟩)
      have e1 : isDig c = false := by rw [Bool.eq_false_iff]; intro h; exact h1 ((isDig_iff c).1 h)
      have e2 : isCap c = false := by rw [Bool.eq_false_iff]; intro h; exact h2 ((isCap_iff c).1 h)
      unfold ok; rw [e1, e2]; rfl
end Chk

/-- What Rest answers: its number, and no error. -/
def RestOk (l : List UInt8) (w : World) (e : Ending) (w' : World) : Prop := e = .returned (.tuple #[.int .i64 (Chk.rest l), .nilIface]) ∧ w = w'
def RestBad (v : Value) (w : World) (e : Ending) (w' : World) : Prop := e = .returned (.tuple #[.int .i64 0, v]) ∧ ∃ n, w' = w.drewN n

set_option maxHeartbeats 1000000 in
theorem rest_any (s : ByteArray) (hs : s.size ≤ maxLen) (v : Value) (w : World) (hv : w.cell? ⟨1, 0, none⟩ = some v) :
    Calls Tryd.prog 14 #[.string s] w fun e w' => (Chk.valid s.data.toList = true → RestOk s.data.toList w e w') ∧ (Chk.valid s.data.toList = false → RestBad v w e w') := by
  unfold maxLen at hs
  have hl : s.data.toList.length = s.size := by simp
  by_cases h0 : s.size = 0
  · have he : s.data.toList = [] := List.eq_nil_of_length_eq_zero (by omega)
    have hb : Hid (Chk.valid s.data.toList = false) := Lib.hid (by rw [he]; rfl)
    have hem := str_empty h0
    clear h0 hl he
    go_enter Tryd.func14, Tryd.ntmps14
    go_wp2
    go_quiet (fail)
    go_wp2
    go_ret2
    exact ⟨(fun h => by rw [hb.out] at h; cases h), fun _ => ⟨rfl, _, rfl⟩⟩
  · have he : s.data.toList ≠ [] := fun e => h0 (by rw [e] at hl; simpa using hl.symm)
    have hem := str_not_empty h0
    have HE := Lib.hid he
    have HL := Lib.hid hl
    clear he hl
    go_enter Tryd.func14, Tryd.ntmps14
    go_wp2
    go_loop [4, 5] (fun r i => ∃ (k : Nat) (z : Int), k ≤ s.size ∧ i = .int .i64 k ∧ r = .int .i64 z ∧ 0 ≤ z ∧ z ≤ 96 ∧ Hid (z = Chk.fold 0 (s.data.toList.take k) ∧ (s.data.toList.take k).all Chk.ok = true)) (fun _ i => s.size - (intOf i).toNat)
    case atStart => exact ⟨0, 0, Nat.zero_le _, rfl, rfl, by omega, by omega, Lib.hid ⟨rfl, rfl⟩⟩
    case round =>
      obtain ⟨k, z, hk, rfl, rfl, hz0, hz1, HR⟩ := hrel
      by_cases hlt : k < s.size
      · have hc := (s[k]'hlt).toNat_lt
        have hkl : k < s.data.toList.length := by rw [HL.out]; exact hlt
        have hgk : s.data.toList[k] = s[k]'hlt := rfl
        rcases Chk.ok_cases (s[k]'hlt) with h1 | h1 | ⟨h1, h2, h3⟩
        · have HN : Hid ((10 * z + (((s[k]'hlt).toNat : Int) - 48)) % 97 = Chk.fold 0 (s.data.toList.take (k + 1)) ∧ (s.data.toList.take (k + 1)).all Chk.ok = true) := Lib.hid (by
            rw [Chk.fold_take _ k hkl, Chk.all_take _ _ k hkl, HR.out.2, ← HR.out.1, hgk, Chk.step_dig _ _ h1, Chk.ok_dig _ h1]
            exact ⟨rfl, rfl⟩)
          clear hgk hkl
          go_wp2_with (go_at_call 24; refine (isdig_yes _ (by omega) _).mono ?_; rintro e w' ⟨rfl, rfl⟩)
          go_round
          case rel => exact ⟨k + 1, _, by omega, by go_num, rfl, by omega, by omega, HN⟩
          case measure => simp [intOf]; omega
        · have HN : Hid ((100 * z + (((s[k]'hlt).toNat : Int) - 65) + 10) % 97 = Chk.fold 0 (s.data.toList.take (k + 1)) ∧ (s.data.toList.take (k + 1)).all Chk.ok = true) := Lib.hid (by
            rw [Chk.fold_take _ k hkl, Chk.all_take _ _ k hkl, HR.out.2, ← HR.out.1, hgk, Chk.step_cap _ _ h1, Chk.ok_cap _ h1]
            exact ⟨rfl, rfl⟩)
          clear hgk hkl
          go_wp2_with (go_at_call 24; refine (isdig_no _ (by omega) _).mono ?_; rintro e w' ⟨rfl, rfl⟩)
          go_round
          case rel => exact ⟨k + 1, _, by omega, by go_num, rfl, by omega, by omega, HN⟩
          case measure => simp [intOf]; omega
        · have HB : Hid (Chk.valid s.data.toList = false) := Lib.hid (by
            cases hv : Chk.valid s.data.toList
            · rfl
            · have := ((Chk.valid_iff _).1 hv).2
              rw [Chk.all_bad _ _ k hkl (by rw [hgk]; exact h3)] at this
              cases this)
          clear hgk hkl h3
          rcases h2 with h2 | h2
          all_goals
            go_wp2_with (go_at_call 24; refine (isdig_no _ (by omega) _).mono ?_; rintro e w' ⟨rfl, rfl⟩)
            go_quiet (fail)
            go_wp2
            go_ret2
            exact ⟨(fun h => by rw [HB.out] at h; cases h), fun _ => ⟨rfl, _, rfl⟩⟩
      · have HA : Hid (Chk.valid s.data.toList = true ∧ z = Chk.rest s.data.toList) := Lib.hid (by
          have h1 := HR.out
          rw [List.take_of_length_le (by rw [HL.out]; omega)] at h1
          exact ⟨(Chk.valid_iff _).2 ⟨HE.out, h1.2⟩, h1.1⟩)
        go_wp2
        go_ret2
        exact ⟨fun _ => ⟨ret_int2 HA.out.2, rfl⟩, fun h => by rw [HA.out.1] at h; cases h⟩
end Go.Proofs.YtnigkjpcccccbaaDoor
