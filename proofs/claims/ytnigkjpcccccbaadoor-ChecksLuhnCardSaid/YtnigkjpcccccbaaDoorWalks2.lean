/-
  Walks over the package checks and its reference, more: the reference's rests; check digits; what fits.
-/
import Derived.Test.YtnigkjpcccccbaaDoorWalks
import Derived.Lib.Hide
import Derived.Handy
import Derived.Laws.IdiomStrings
namespace Go.Proofs.YtnigkjpcccccbaaDoor
open Go.RowKit

theorem value_dig (c : Int) (h : 48 ≤ c ∧ c ≤ 57) (w : World) : Calls Tryd.prog 25 #[.int .u8 c] w fun e w' => e = .returned (.int .i64 (c - 48)) ∧ w = w' := by
  go_enter Tryd.func25, Tryd.ntmps25
  go_wp2
  go_ret
  exact ⟨rfl, rfl⟩
theorem value_cap (c : Int) (h : 65 ≤ c ∧ c ≤ 90) (w : World) : Calls Tryd.prog 25 #[.int .u8 c] w fun e w' => e = .returned (.int .i64 (c - 55)) ∧ w = w' := by
  go_enter Tryd.func25, Tryd.ntmps25
  go_wp2
  go_ret
  exact ⟨ret_int (by omega), rfl⟩
theorem value_no (c : Int) (h : c < 48 ∨ 57 < c) (h' : c < 65 ∨ 90 < c) (w : World) : Calls Tryd.prog 25 #[.int .u8 c] w fun e w' => e = .returned (.int .i64 (-1)) ∧ w = w' := by
  rcases h with h | h <;> rcases h' with h' | h'
  all_goals first
    | (exfalso; omega)
    | (go_enter Tryd.func25, Tryd.ntmps25
       go_wp2
       go_ret
       exact ⟨rfl, rfl⟩)

def rcode (l : List UInt8) : Int := if Chk.valid l = true then 0 else 7
def rnum (l : List UInt8) : Int := if Chk.valid l = true then Chk.rest l else 0
theorem rcode_yes {l : List UInt8} (h : Chk.valid l = true) : rcode l = 0 := by unfold rcode; rw [if_pos h]
theorem rcode_no {l : List UInt8} (h : Chk.valid l = false) : rcode l = 7 := by unfold rcode; rw [if_neg (by rw [h]; simp)]
theorem rnum_yes {l : List UInt8} (h : Chk.valid l = true) : rnum l = Chk.rest l := by unfold rnum; rw [if_pos h]
theorem rnum_no {l : List UInt8} (h : Chk.valid l = false) : rnum l = 0 := by unfold rnum; rw [if_neg (by rw [h]; simp)]
theorem ret_ii {a b c d : Int} (h : a = b) (h' : c = d) : Ending.returned (.tuple #[.int .i64 a, .int .i64 c]) = .returned (.tuple #[.int .i64 b, .int .i64 d]) := by rw [h, h']

set_option maxHeartbeats 1000000 in
theorem restr_any (s : ByteArray) (hs : s.size ≤ maxLen) (w : World) :
    Calls Tryd.prog 15 #[.string s] w fun e w' => e = .returned (.tuple #[.int .i64 (rnum s.data.toList), .int .i64 (rcode s.data.toList)]) ∧ w = w' := by
  unfold maxLen at hs
  have hl : s.data.toList.length = s.size := by simp
  by_cases h0 : s.size = 0
  · have he : s.data.toList = [] := List.eq_nil_of_length_eq_zero (by omega)
    have hb : Hid (Chk.valid s.data.toList = false) := Lib.hid (by rw [he]; rfl)
    have hz : ((s.size : Int) == 0) = true := by rw [beq_iff_eq]; omega
    clear h0 hl he
    go_enter Tryd.func15, Tryd.ntmps15
    go_wp2
    go_ret2
    exact ⟨ret_ii (rnum_no hb.out).symm (rcode_no hb.out).symm, rfl⟩
  · have he : s.data.toList ≠ [] := fun e => h0 (by rw [e] at hl; simpa using hl.symm)
    have hz : ((s.size : Int) == 0) = false := by rw [beq_eq_false_iff_ne]; omega
    have HE := Lib.hid he
    have HL := Lib.hid hl
    clear he hl
    go_enter Tryd.func15, Tryd.ntmps15
    go_wp2
    go_loop [4, 5] (fun r i => ∃ (k : Nat) (z : Int), k ≤ s.size ∧ i = .int .i64 k ∧ r = .int .i64 z ∧ 0 ≤ z ∧ z ≤ 96 ∧ Hid (z = Chk.fold 0 (s.data.toList.take k) ∧ (s.data.toList.take k).all Chk.ok = true)) (fun _ i => s.size - (intOf i).toNat)
    case atStart => exact ⟨0, 0, Nat.zero_le _, rfl, rfl, by omega, by omega, Lib.hid ⟨rfl, rfl⟩⟩
    case round =>
      obtain ⟨k, z, hk, rfl, rfl, hz0, hz1, HR⟩ := hrel
      by_cases hlt : k < s.size
      · have hc := (s[k]'hlt).toNat_lt
        have hkl : k < s.data.toList.length := by rw [HL.out]; exact hlt
        have hgk : s.data.toList[k] = s[k]'hlt := rfl
        rcases Chk.ok_cases (s[k]'hlt) with h1 | h1 | ⟨h1, h2, h3⟩
        · have HN : Hid (Chk.fold 0 (s.data.toList.take (k + 1)) = (10 * z + (((s[k]'hlt).toNat : Int) - 48)) % 97 ∧ (s.data.toList.take (k + 1)).all Chk.ok = true) := Lib.hid (by
            rw [Chk.fold_take _ k hkl, Chk.all_take _ _ k hkl, HR.out.2, ← HR.out.1, hgk, Chk.step_dig _ _ h1, Chk.ok_dig _ h1]
            exact ⟨rfl, rfl⟩)
          clear hgk hkl
          go_wp2_with (go_at_call 25; refine (value_dig _ (by omega) _).mono ?_; rintro e w' ⟨rfl, rfl⟩)
          go_round
          case rel => exact ⟨k + 1, _, by omega, by go_num, rfl, by omega, by omega, Lib.hid ⟨by rw [HN.out.1]; omega, HN.out.2⟩⟩
          case measure => simp [intOf]; omega
        · have HN : Hid (Chk.fold 0 (s.data.toList.take (k + 1)) = (100 * z + (((s[k]'hlt).toNat : Int) - 65) + 10) % 97 ∧ (s.data.toList.take (k + 1)).all Chk.ok = true) := Lib.hid (by
            rw [Chk.fold_take _ k hkl, Chk.all_take _ _ k hkl, HR.out.2, ← HR.out.1, hgk, Chk.step_cap _ _ h1, Chk.ok_cap _ h1]
            exact ⟨rfl, rfl⟩)
          clear hgk hkl
          go_wp2_with (go_at_call 25; refine (value_cap _ (by omega) _).mono ?_; rintro e w' ⟨rfl, rfl⟩)
          go_round
          case rel => exact ⟨k + 1, _, by omega, by go_num, rfl, by omega, by omega, Lib.hid ⟨by rw [HN.out.1]; omega, HN.out.2⟩⟩
          case measure => simp [intOf]; omega
        · have HB : Hid (Chk.valid s.data.toList = false) := Lib.hid (by
            cases hv : Chk.valid s.data.toList
            · rfl
            · have := ((Chk.valid_iff _).1 hv).2
              rw [Chk.all_bad _ _ k hkl (by rw [hgk]; exact h3)] at this
              cases this)
          clear hgk hkl h3
          have H1 := Lib.hid h1
          have H2 := Lib.hid h2
          clear h1 h2
          go_wp2_with (go_at_call 25; refine (value_no _ H1.out H2.out _).mono ?_; rintro e w' ⟨rfl, rfl⟩)
          go_ret2
          exact ⟨ret_ii (rnum_no HB.out).symm (rcode_no HB.out).symm, rfl⟩
      · have HA : Hid (Chk.valid s.data.toList = true ∧ z = Chk.rest s.data.toList) := Lib.hid (by
          have h1 := HR.out
          rw [List.take_of_length_le (by rw [HL.out]; omega)] at h1
          exact ⟨(Chk.valid_iff _).2 ⟨HE.out, h1.2⟩, h1.1⟩)
        go_wp2
        go_ret2
        exact ⟨ret_ii (HA.out.2.trans (rnum_yes HA.out.1).symm) (rcode_yes HA.out.1).symm, rfl⟩

/- The two check digits. -/
theorem zeros_data (s : ByteArray) : (s ++ (⟨#[48, 48]⟩ : ByteArray)).data.toList = s.data.toList ++ [48, 48] := by
  simp [ByteArray.data_append]
theorem zeros_size (s : ByteArray) : (s ++ (⟨#[48, 48]⟩ : ByteArray)).size = s.size + 2 := by
  simp [ByteArray.size_append]; rfl
/-- 'string([]byte{a, b})'. -/
theorem conv2 (w : World) (a b : Int) (ha : 0 ≤ a ∧ a ≤ 255) (hb : 0 ≤ b ∧ b ≤ 255) :
    (convert 28 9 (.slice (some ⟨w.heap.size, 0, none⟩) 2 2)).run Tryd.prog (w.alloc (.cells #[.int .u8 a, .int .u8 b] 5)) =
      .ok (.string ⟨#[UInt8.ofNat a.toNat, UInt8.ofNat b.toNat]⟩) (w.alloc (.cells #[.int .u8 a, .int .u8 b] 5)) := by
  refine run_convert_bytes_back _ 28 9 5 ⟨w.heap.size, 0, none⟩ 2 [UInt8.ofNat a.toNat, UInt8.ofNat b.toNat] Tryd.underlying28 Tryd.underlying5 Tryd.underlying9 ?_
  intro j hj
  match j, hj with
  | 0, _ =>
    rw [show (⟨w.heap.size, 0, none⟩ : Addr).add 0 = ⟨w.heap.size, 0, none⟩ from rfl, World.cell?_alloc_at (hn := rfl)]
    simp; omega
  | 1, _ =>
    rw [show (⟨w.heap.size, 0, none⟩ : Addr).add 1 = ⟨w.heap.size, 1, none⟩ from rfl, World.cell?_alloc_at (hn := rfl)]
    simp; omega
def dstr (l : List UInt8) : ByteArray := ⟨(Chk.digits l).toArray⟩

theorem rest_yes (s : ByteArray) (l : List UInt8) (hl : s.data.toList = l) (hs : s.size ≤ maxLen) (hv : Chk.valid l = true) (v : Value) (w : World) (hc : w.cell? ⟨1, 0, none⟩ = some v) :
    Calls Tryd.prog 14 #[.string s] w fun e w' => e = .returned (.tuple #[.int .i64 (Chk.rest l), .nilIface]) ∧ w = w' := by
  subst hl
  exact (rest_any s hs v w hc).mono fun e w' h => h.1 hv
theorem rest_no (s : ByteArray) (l : List UInt8) (hl : s.data.toList = l) (hs : s.size ≤ maxLen) (hv : Chk.valid l = false) (v : Value) (w : World) (hc : w.cell? ⟨1, 0, none⟩ = some v) :
    Calls Tryd.prog 14 #[.string s] w fun e w' => e = .returned (.tuple #[.int .i64 0, v]) ∧ ∃ n, w' = w.drewN n := by
  subst hl
  exact (rest_any s hs v w hc).mono fun e w' h => h.2 hv
theorem restr_l (s : ByteArray) (l : List UInt8) (hl : s.data.toList = l) (hs : s.size ≤ maxLen) (w : World) :
    Calls Tryd.prog 15 #[.string s] w fun e w' => e = .returned (.tuple #[.int .i64 (rnum l), .int .i64 (rcode l)]) ∧ w = w' := by
  subst hl
  exact restr_any s hs w
theorem ret_str {a b : ByteArray} {v : Value} (h : a = b) : Ending.returned (.tuple #[.string a, v]) = .returned (.tuple #[.string b, v]) := by rw [h]
theorem dstr_eq (l : List UInt8) (r : Int) (h : 98 - r = Chk.dnum l) : (⟨#[UInt8.ofNat (48 + (98 - r) / 10).toNat, UInt8.ofNat (48 + (98 - r) % 10).toNat]⟩ : ByteArray) = dstr l := by
  rw [h]; rfl
theorem size_of_data {s : ByteArray} {l : List UInt8} (h : s.data.toList = l) : l.length = s.size := by rw [← h]; simp

set_option maxHeartbeats 1000000 in
theorem digits_yes (s : ByteArray) (l : List UInt8) (hl : s.data.toList = l) (hs : s.size ≤ 1000000000000000) (hv : Chk.valid l = true) (v : Value) (w : World) (hc : w.cell? ⟨1, 0, none⟩ = some v) :
    Calls Tryd.prog 17 #[.string s] w fun e w' => e = .returned (.tuple #[.string (dstr l), .nilIface]) ∧ Below w.heap.size w w' := by
  have hnn : ∀ W : World, (binOp .neq 31 .nilIface .nilIface).run Tryd.prog W = .ok (.bool false) W := fun W => by kernel_rfl
  have hne : s.size ≠ 0 := fun h0 => by
    have := ((Chk.valid_iff _).1 hv).1
    exact this (List.eq_nil_of_length_eq_zero (by rw [size_of_data hl]; exact h0))
  have hem := str_not_empty hne
  have HV := Lib.hid (Chk.valid_zeros _ hv)
  have HL := Lib.hid (show (s ++ (⟨#[48, 48]⟩ : ByteArray)).data.toList = l ++ [48, 48] by rw [zeros_data, hl])
  have hd := Chk.dnum_bd l
  have hr := Chk.rest_bd (l ++ [48, 48])
  have HD : Hid (98 - Chk.rest (l ++ [48, 48]) = Chk.dnum l) := Lib.hid rfl
  clear hv hne hl
  go_enter Tryd.func17, Tryd.ntmps17
  go_wp2_with fail
  refine (rest_yes _ _ HL.out (by rw [zeros_size]; unfold maxLen; omega) HV.out v _ hc).mono ?_
  rintro e w1 ⟨rfl, rfl⟩
  generalize Chk.rest (l ++ [48, 48]) = r at *
  have hcv := conv2 w (48 + (98 - r) / 10) (48 + (98 - r) % 10) (by omega) (by omega)
  go_wp2
  go_ret2
  exact ⟨ret_str (dstr_eq l r HD.out), (Below.refl _ _).alloc (Nat.le_refl _) _⟩
set_option maxHeartbeats 1000000 in
theorem digits_no (s : ByteArray) (l : List UInt8) (hl : s.data.toList = l) (hs : s.size ≤ 1000000000000000) (hv : Chk.valid l = false) (t : TypeId) (x : Value) (w : World) (hc : w.cell? ⟨1, 0, none⟩ = some (.iface t x)) :
    Calls Tryd.prog 17 #[.string s] w fun e w' => e = .returned (.tuple #[.string ⟨#[]⟩, .iface t x]) ∧ ∃ n, w' = w.drewN n := by
  by_cases h0 : s.size = 0
  · have hem := str_empty h0
    clear h0 hl hv
    go_enter Tryd.func17, Tryd.ntmps17
    go_wp2
    go_quiet (fail)
    go_wp2
    go_ret2
    exact ⟨rfl, _, rfl⟩
  · have hem := str_not_empty h0
    have hv2 : Chk.valid (l ++ [48, 48]) = false := by
      cases h : Chk.valid (l ++ [48, 48])
      · rfl
      · rw [Chk.valid_of_zeros l h (fun e => h0 (by rw [← size_of_data hl, e]; rfl))] at hv
        cases hv
    have HV := Lib.hid hv2
    have HL := Lib.hid (show (s ++ (⟨#[48, 48]⟩ : ByteArray)).data.toList = l ++ [48, 48] by rw [zeros_data, hl])
    clear hv hl hv2
    go_enter Tryd.func17, Tryd.ntmps17
    go_wp2_with fail
    refine (rest_no _ _ HL.out (by rw [zeros_size]; unfold maxLen; omega) HV.out _ _ hc).mono ?_
    rintro e w1 ⟨rfl, n, rfl⟩
    go_wp2
    go_ret2
    exact ⟨rfl, _, rfl⟩
def dtext (l : List UInt8) : ByteArray := if Chk.valid l = true then dstr l else ⟨#[]⟩
theorem dtext_yes {l : List UInt8} (h : Chk.valid l = true) : dtext l = dstr l := by unfold dtext; rw [if_pos h]
theorem dtext_no {l : List UInt8} (h : Chk.valid l = false) : dtext l = ⟨#[]⟩ := by unfold dtext; rw [if_neg (by rw [h]; simp)]
theorem ret_si {a b : ByteArray} {c d : Int} (h : a = b) (h' : c = d) : Ending.returned (.tuple #[.string a, .int .i64 c]) = .returned (.tuple #[.string b, .int .i64 d]) := by rw [h, h']
set_option maxHeartbeats 1000000 in
theorem digitsr_any (s : ByteArray) (l : List UInt8) (hl : s.data.toList = l) (hs : s.size ≤ 1000000000000000) (w : World) :
    Calls Tryd.prog 18 #[.string s] w fun e w' => e = .returned (.tuple #[.string (dtext l), .int .i64 (rcode l)]) ∧ Below w.heap.size w w' := by
  cases hv : Chk.valid l
  · have H1 := Lib.hid (rcode_no hv)
    have H2 := Lib.hid (dtext_no hv)
    have HL := Lib.hid hl
    clear hv hl
    go_enter Tryd.func18, Tryd.ntmps18
    go_wp2_with fail
    refine (restr_l _ _ HL.out (by unfold maxLen; omega) _).mono ?_
    rintro e w1 ⟨rfl, rfl⟩
    rw [H1.out]
    go_wp2
    go_ret2
    exact ⟨ret_si H2.out.symm H1.out.symm, Below.refl _ _⟩
  · have H1 := Lib.hid (rcode_yes hv)
    have H2 := Lib.hid (dtext_yes hv)
    have hv2 := Chk.valid_zeros _ hv
    have H3 := Lib.hid (rnum_yes hv2)
    have HL := Lib.hid hl
    have HL2 := Lib.hid (show (s ++ (⟨#[48, 48]⟩ : ByteArray)).data.toList = l ++ [48, 48] by rw [zeros_data, hl])
    have hd := Chk.dnum_bd l
    have hr := Chk.rest_bd (l ++ [48, 48])
    have HD : Hid (98 - Chk.rest (l ++ [48, 48]) = Chk.dnum l) := Lib.hid rfl
    clear hv hl hv2
    go_enter Tryd.func18, Tryd.ntmps18
    go_wp2_with fail
    refine (restr_l _ _ HL.out (by unfold maxLen; omega) _).mono ?_
    rintro e w1 ⟨rfl, rfl⟩
    rw [H1.out]
    go_wp2_with fail
    refine (restr_l _ _ HL2.out (by rw [zeros_size]; unfold maxLen; omega) _).mono ?_
    rintro e w1 ⟨rfl, rfl⟩
    rw [H3.out]
    generalize Chk.rest (l ++ [48, 48]) = r at *
    have hcv := conv2 w (48 + (98 - r) / 10) (48 + (98 - r) % 10) (by omega) (by omega)
    go_wp2
    go_ret2
    exact ⟨ret_si ((dstr_eq l r HD.out).trans H2.out.symm) H1.out.symm, (Below.refl _ _).alloc (Nat.le_refl _) _⟩

theorem extract_end (s : ByteArray) (a : Nat) : (s.extract a s.size).data.toList = s.data.toList.drop a := by
  rw [Lib.extract_data]
  exact List.take_of_length_le (by simp)
/- What fits. -/
theorem fits_short (l : List UInt8) (h : l.length < 3) : Chk.fits l = false := by
  unfold Chk.fits
  rw [decide_eq_false (by omega)]
  rfl
theorem fits_long (l : List UInt8) (h : 3 ≤ l.length) : Chk.fits l = (Chk.valid (l.take (l.length - 2)) && (Chk.digits (l.take (l.length - 2)) == l.drop (l.length - 2))) := by
  unfold Chk.fits
  rw [decide_eq_true h]
  rfl
set_option maxHeartbeats 1000000 in
theorem fits_any (s : ByteArray) (l : List UInt8) (hl : s.data.toList = l) (hs : s.size ≤ 1000000000000000) (t : TypeId) (x : Value) (w : World) (hc : w.cell? ⟨1, 0, none⟩ = some (.iface t x)) :
    Calls Tryd.prog 21 #[.string s] w fun e w' => e = .returned (.bool (Chk.fits l)) ∧ Below w.heap.size w w' := by
  have hnn : ∀ W : World, (binOp .eql 31 .nilIface .nilIface).run Tryd.prog W = .ok (.bool true) W := fun W => by kernel_rfl
  by_cases h3 : s.size < 3
  · have HF := Lib.hid (fits_short l (by rw [size_of_data hl]; exact h3))
    clear hl
    go_enter Tryd.func21, Tryd.ntmps21
    go_wp2
    go_ret
    exact ⟨ret_bool HF.out.symm, Below.refl _ _⟩
  · have hlen := size_of_data hl
    have HF := fits_long l (by omega)
    rw [hlen] at HF
    have hd1 : (s.extract 0 (s.size - 2)).data.toList = l.take (s.size - 2) := by rw [Lib.extract_data, hl]; simp
    have hd2 : (s.extract (s.size - 2) s.size).toList = l.drop (s.size - 2) := by rw [Lib.toList_data, extract_end, hl]
    have hsz : (s.extract 0 (s.size - 2)).size ≤ 1000000000000000 := by
      have := size_of_data hd1
      rw [List.length_take] at this
      omega
    cases hv : Chk.valid (l.take (s.size - 2))
    · rw [hv] at HF
      have HF2 := Lib.hid (show Chk.fits l = false from HF)
      have HV := Lib.hid hv
      have HD := Lib.hid hd1
      clear hl hlen HF hd1 hd2 hv
      go_enter Tryd.func21, Tryd.ntmps21
      go_wp2_with fail
      refine (digits_no _ _ HD.out hsz HV.out _ _ _ hc).mono ?_
      rintro e w1 ⟨rfl, n, rfl⟩
      go_wp2
      go_ret
      exact ⟨ret_bool HF2.out.symm, below_drewN (Below.refl _ _) _⟩
    · rw [hv, Bool.true_and] at HF
      have HF2 := Lib.hid HF
      have HV := Lib.hid hv
      have HD := Lib.hid hd1
      have HD2 : Hid ((dstr (l.take (s.size - 2))).toList = Chk.digits (l.take (s.size - 2))) := Lib.hid (by rw [Lib.toList_data]; rfl)
      have HE := Lib.hid hd2
      clear hl hlen HF hd1 hd2 hv
      go_enter Tryd.func21, Tryd.ntmps21
      go_wp2_with fail
      refine (digits_yes _ _ HD.out hsz HV.out _ _ hc).mono ?_
      rintro e w1 ⟨rfl, hb⟩
      go_wp2
      go_ret
      exact ⟨ret_bool (by rw [HF2.out, HD2.out, HE.out]), hb⟩
set_option maxHeartbeats 1000000 in
theorem fitsr_any (s : ByteArray) (l : List UInt8) (hl : s.data.toList = l) (hs : s.size ≤ 1000000000000000) (w : World) :
    Calls Tryd.prog 22 #[.string s] w fun e w' => e = .returned (.bool (Chk.fits l)) ∧ Below w.heap.size w w' := by
  by_cases h3 : s.size < 3
  · have HF := Lib.hid (fits_short l (by rw [size_of_data hl]; exact h3))
    clear hl
    go_enter Tryd.func22, Tryd.ntmps22
    go_wp2
    go_ret
    exact ⟨ret_bool HF.out.symm, Below.refl _ _⟩
  · have hlen := size_of_data hl
    have HF := fits_long l (by omega)
    rw [hlen] at HF
    have hd1 : (s.extract 0 (s.size - 2)).data.toList = l.take (s.size - 2) := by rw [Lib.extract_data, hl]; simp
    have hd2 : (s.extract (s.size - 2) s.size).toList = l.drop (s.size - 2) := by rw [Lib.toList_data, extract_end, hl]
    have hsz : (s.extract 0 (s.size - 2)).size ≤ 1000000000000000 := by
      have := size_of_data hd1
      rw [List.length_take] at this
      omega
    cases hv : Chk.valid (l.take (s.size - 2))
    · rw [hv] at HF
      have HF2 := Lib.hid (show Chk.fits l = false from HF)
      have HV := Lib.hid (rcode_no hv)
      have HD := Lib.hid hd1
      clear hl hlen HF hd1 hd2 hv
      go_enter Tryd.func22, Tryd.ntmps22
      go_wp2_with fail
      refine (digitsr_any _ _ HD.out hsz _).mono ?_
      rintro e w1 ⟨rfl, hb⟩
      rw [HV.out]
      go_wp2
      go_ret
      exact ⟨ret_bool HF2.out.symm, hb⟩
    · rw [hv, Bool.true_and] at HF
      have HF2 := Lib.hid HF
      have HV := Lib.hid (rcode_yes hv)
      have HT := Lib.hid (dtext_yes hv)
      have HD := Lib.hid hd1
      have HD2 : Hid ((dstr (l.take (s.size - 2))).toList = Chk.digits (l.take (s.size - 2))) := Lib.hid (by rw [Lib.toList_data]; rfl)
      have HE := Lib.hid hd2
      clear hl hlen HF hd1 hd2 hv
      go_enter Tryd.func22, Tryd.ntmps22
      go_wp2_with fail
      refine (digitsr_any _ _ HD.out hsz _).mono ?_
      rintro e w1 ⟨rfl, hb⟩
      rw [HV.out, HT.out]
      go_wp2
      go_ret
      exact ⟨ret_bool (by rw [HF2.out, HD2.out, HE.out]), hb⟩
end Go.Proofs.YtnigkjpcccccbaaDoor
