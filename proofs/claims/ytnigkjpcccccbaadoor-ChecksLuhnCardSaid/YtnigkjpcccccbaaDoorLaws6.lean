/-
  Walks over statements of layer 3, more: Luhn.
-/
import Derived.Test.YtnigkjpcccccbaaDoorLaws5
namespace Go.Proofs.YtnigkjpcccccbaaDoor
open Go.RowKit

theorem isDig_cls {c : UInt8} : Chk.isDig c = true ↔ Chk.cls c = 1 := by
  unfold Chk.cls
  by_cases h : Chk.isDig c = true
  · simp [h]
  · by_cases h2 : Chk.isCap c = true <;> simp [h, h2]
theorem all_mid {p q : List UInt8} {a : UInt8} (h : (p ++ a :: q).all Chk.isDig = true) : p.all Chk.isDig = true ∧ Chk.isDig a = true ∧ q.all Chk.isDig = true := by
  simpa [List.all_append, Bool.and_eq_true] using h
theorem ldig_all {l : List UInt8} (h : Chk.ldig l = true) : l.all Chk.isDig = true := by
  unfold Chk.ldig at h
  rw [Bool.and_eq_true] at h
  exact h.2
theorem ldig_mk {l : List UInt8} (h0 : l ≠ []) (h : l.all Chk.isDig = true) : Chk.ldig l = true := by
  unfold Chk.ldig
  rw [h]
  cases l with
  | nil => exact absurd rfl h0
  | cons a l => rfl
theorem one_luhn {l m : List UInt8} {i : Nat} {c : UInt8} (h : OneOf l i c m) (hd : Chk.ldig l = true) : m = [] ∨ (m ≠ [] ∧ Chk.ldig m = true ∧ Chk.luhn m ≠ Chk.luhn l) := by
  rcases h with rfl | ⟨p, a, q, rfl, _, hne, hc, rfl⟩
  · exact Or.inl rfl
  · obtain ⟨hp, ha, hq⟩ := all_mid (ldig_all hd)
    have hcd : Chk.isDig c = true := isDig_cls.2 (hc ▸ isDig_cls.1 ha)
    have hm0 : p ++ c :: q ≠ [] := by simp
    exact Or.inr ⟨hm0, ldig_mk hm0 (by simp [List.all_append, hp, hcd, hq]), fun e => Chk.luhn_one p q a c ha hcd hne e.symm⟩
theorem two_luhn {l m : List UInt8} {i : Nat} (h : TwoOf l i m) (hd : Chk.ldig l = true) :
    m = [] ∨ (m ≠ [] ∧ Chk.ldig m = true ∧ ∃ (h1 : i < l.length) (h2 : i + 1 < l.length), Chk.isDig l[i] = true ∧ Chk.isDig l[i + 1] = true ∧
      (((l[i].toNat : Int) + l[i + 1].toNat ≠ 105 ∨ ((l[i].toNat : Int) ≠ 48 ∧ (l[i].toNat : Int) ≠ 57)) → Chk.luhn m ≠ Chk.luhn l)) := by
  rcases h with rfl | ⟨p, a, b, q, rfl, rfl, hne, hc, rfl⟩
  · exact Or.inl rfl
  · obtain ⟨hp, ha, hq⟩ := all_mid (ldig_all hd)
    obtain ⟨_, hb, hq⟩ := all_mid (p := []) hq
    have hm0 : p ++ b :: a :: q ≠ [] := by simp
    refine Or.inr ⟨hm0, ldig_mk hm0 (by simp [List.all_append, hp, ha, hb, hq]), by simp, by simp, ?_⟩
    have e1 : (p ++ a :: b :: q)[p.length]'(by simp) = a := by simp
    have e2 : (p ++ a :: b :: q)[p.length + 1]'(by simp) = b := by simp
    rw [e1, e2]
    exact ⟨ha, hb, fun hz e => Chk.luhn_two p q a b ha hb hne hz e.symm⟩

set_option maxRecDepth 100000 in
set_option maxHeartbeats 2000000 in
theorem luhn_in (s : ByteArray) (l : List UInt8) (hl : s.data.toList = l) (hs : s.size ≤ 150000000000000) (p : Int) (c : UInt8) (A : Nat → Addr) (w : World) (hG : Glob37 w.heap.size w A) (hv : Chk.ldig l = false) :
    Calls Tryd.prog 8 #[.string s, .int .i64 p, .int .u8 (c.toNat : Int)] w fun e w' => e = .returned (.bool true) ∧ Below w.heap.size w w' := by
  have HL := Lib.hid hl
  have HG := Lib.hid hG
  have HSk := Lib.hid (show s.size ≤ 1000000000000000 by omega)
  have HV := Lib.hid hv
  clear hl hG hv
  go_enter Tryd.func8, Tryd.ntmps8
  go_wp2_with fail
  refine (lives_any _ _ _ _ HG.out.gl).mono ?_
  rintro e w1 ⟨rfl, hb1⟩
  have HB := Lib.hid hb1
  have HG1 := Lib.hid (HG.out.below hb1)
  clear hb1
  go_wp2_with fail
  refine (luhn_no _ _ HL.out HSk.out HV.out _ _ _ HG1.out.gl.err).mono ?_
  rintro e w2 ⟨rfl, n, rfl⟩
  have HB2 := Lib.hid (below_drewN HB.out n)
  have HG2 := Lib.hid (HG.out.below HB2.out)
  go_wp2_with fail
  refine (num_form _ _ _ (by exact HG2.out.ers)).mono ?_
  rintro e w3 ⟨rfl, hb1⟩
  go_wp2
  go_ret
  exact ⟨rfl, HB2.out.trans (hb1.mono HB2.out.size)⟩

set_option maxRecDepth 100000 in
set_option maxHeartbeats 8000000 in
theorem luhn_va (s : ByteArray) (l : List UInt8) (hl : s.data.toList = l) (hs : s.size ≤ 150000000000000) (p : Int) (c : UInt8) (A : Nat → Addr) (w : World) (hG : Glob37 w.heap.size w A) (hv : Chk.ldig l = true) :
    Calls Tryd.prog 8 #[.string s, .int .i64 p, .int .u8 (c.toNat : Int)] w fun e w' => e = .returned (.bool true) ∧ Below w.heap.size w w' := by
  have hnm : ∀ W : World, (binOp .neq 31 .nilIface .nilIface).run Tryd.prog W = .ok (.bool false) W := fun W => by kernel_rfl
  have hnn : ∀ W : World, (binOp .eql 31 .nilIface .nilIface).run Tryd.prog W = .ok (.bool true) W := fun W => by kernel_rfl
  have hclt := c.toNat_lt
  have hnl := size_of_data hl
  have hpos : 0 < s.size := by
    rcases Nat.eq_zero_or_pos s.size with h | h
    · have : l = [] := List.eq_nil_of_length_eq_zero (by omega)
      subst this
      cases hv
    · exact h
  have hz : ((s.size : Int) == 0) = false := by rw [beq_eq_false_iff_ne]; omega
  have HL := Lib.hid hl
  have HG := Lib.hid hG
  have HSk := Lib.hid (show s.size ≤ 1000000000000000 by omega)
  have HV := Lib.hid hv
  have HNL := Lib.hid hnl
  obtain ⟨i, hi, hwp⟩ := place_of p s.size (by omega) (by omega)
  have HP := Lib.hid hwp
  obtain ⟨n, hn⟩ : ∃ n, Hid (Chk.luhn l = n) := ⟨_, Lib.hid rfl⟩
  have hnb := Chk.luhn_bd l
  rw [hn.out] at hnb
  clear hl hG hv hwp hnl
  go_enter Tryd.func8, Tryd.ntmps8
  go_wp2_with fail
  refine (lives_any _ _ _ _ HG.out.gl).mono ?_
  rintro e w1 ⟨rfl, hb1⟩
  have HB := Lib.hid hb1
  clear hb1
  go_wp2_with fail
  refine (luhn_yes _ _ HL.out HSk.out HV.out _).mono ?_
  rintro e w2 ⟨rfl, rfl⟩
  rw [hn.out]
  go_wp2_with fail
  obtain ⟨c2, hc2⟩ : ∃ c2 : UInt8, (48 + (c.toNat : Int) % 10) = (c2.toNat : Int) := ⟨UInt8.ofNat (48 + c.toNat % 10), by rw [UInt8.toNat_ofNat_of_lt' (show 48 + c.toNat % 10 < 256 by omega)]; omega⟩
  rw [HP.out, hc2]
  refine (slip_any s _ HL.out HSk.out i hi c2 _).mono ?_
  rintro e w4 ⟨⟨S1, S2, rfl, h1, h2⟩, hb1⟩
  have HB4 := Lib.hid (HB.out.trans (hb1.mono HB.out.size))
  have HK1 := Lib.hid (show S1.size ≤ 1000000000000000 by
    have := h1.length
    have e1 := HSk.out
    have e2 := HNL.out
    have e3 := size_of_data (s := S1) rfl
    omega)
  have HK2 := Lib.hid (show S2.size ≤ 1000000000000000 by
    have := h2.length
    have e1 := HSk.out
    have e2 := HNL.out
    have e3 := size_of_data (s := S2) rfl
    omega)
  have H1 := Lib.hid (one_luhn h1 HV.out)
  have H2 := Lib.hid (two_luhn h2 HV.out)
  clear h1 h2 hb1 HB hpos
  have hlen0 : ∀ S : ByteArray, S.data.toList = [] → S.toList.isEmpty = true := fun S h => str_empty (by rw [← size_of_data h]; rfl)
  have hlen1 : ∀ S : ByteArray, S.data.toList ≠ [] → S.toList.isEmpty = false := fun S h => str_not_empty (fun e => h (List.eq_nil_of_length_eq_zero (by rw [size_of_data rfl]; exact e)))
  have K0 := Lib.hid hlen0
  have K1 := Lib.hid hlen1
  clear hlen0 hlen1
  rcases H1.out with he | he
  · obtain he1 := K0.out S1 he
    clear he HK1
    rcases H2.out with he2 | he2
    · have he3 := K0.out S2 he2
      clear he2 K0 K1 H1 H2
      go_wp2_with fail
      go_quiet (fail)
      go_wp2
      go_ret
      exact ⟨rfl, below_drewN HB4.out _⟩
    · obtain ⟨hne2, hD2, hli, hlj, hda, hdb, hz2⟩ := he2
      have hj : i + 1 < s.size := by rw [← HNL.out]; exact hlj
      rw [← get_data HL.out i hi hli] at hda hz2
      rw [← get_data HL.out (i + 1) hj hlj] at hdb hz2
      have hla := (s[i]'hi).toNat_lt
      have hlb := (s[i + 1]'hj).toNat_lt
      have he3 := K1.out S2 hne2
      have HD2 := Lib.hid hD2
      obtain ⟨m2, hm2⟩ : ∃ m2, Hid (Chk.luhn S2.data.toList = m2) := ⟨_, Lib.hid rfl⟩
      rw [hm2.out, hn.out] at hz2
      have HZ := Lib.hid hz2
      clear hne2 hD2 hda hdb hz2 hli hlj
      clear K0 K1 H1 H2
      by_cases hq : ((s[i]'hi).toNat : Int) + ((s[i + 1]'hj).toNat : Int) = 105
      · by_cases hq48 : ((s[i]'hi).toNat : Int) = 48
        · clear HZ
          go_wp2_with fail
          have hq1 : ((((s[i]'hi).toNat : Int) + ((s[i + 1]'hj).toNat : Int)) != 105) = false := by rw [hq]; rfl
          clear hq
          have hq2 : (((s[i]'hi).toNat : Int) != 48) = false := by rw [hq48]; rfl
          clear hq48
          have hi1 : (i : Int) < (s.size : Int) := by omega
          have hi2 : (i : Int) + 1 < (s.size : Int) := by omega
          have hab := hla
          have hbb := hlb
          have hw1 : IntKind.i64.wrap ((i : Int) + 1) = (i : Int) + 1 := IntWalk.i64_in _ (by omega)
          have hw2 : IntKind.i64.wrap (((s[i]'hi).toNat : Int) + ((s[i + 1]'hj).toNat : Int)) = ((s[i]'hi).toNat : Int) + ((s[i + 1]'hj).toNat : Int) := IntWalk.i64_in _ (by omega)
          have hws0 : (0 : Int) ≤ (i : Int) + 1 := by omega
          have hwt : ((i : Int) + 1).toNat = i + 1 := by omega
          go_quiet (fail)
          clear hw1 hw2
          go_wp2
          go_ret
          exact ⟨rfl, below_drewN HB4.out _⟩
        · by_cases hq57 : ((s[i]'hi).toNat : Int) = 57
          · clear HZ hq48
            go_wp2_with fail
            have hq1 : ((((s[i]'hi).toNat : Int) + ((s[i + 1]'hj).toNat : Int)) != 105) = false := by rw [hq]; rfl
            clear hq
            have hq2 : (((s[i]'hi).toNat : Int) != 48) = true := by rw [hq57]; rfl
            have hq3 : (((s[i]'hi).toNat : Int) != 57) = false := by rw [hq57]; rfl
            clear hq57
            have hi1 : (i : Int) < (s.size : Int) := by omega
            have hi2 : (i : Int) + 1 < (s.size : Int) := by omega
            have hab := hla
            have hbb := hlb
            have hw1 : IntKind.i64.wrap ((i : Int) + 1) = (i : Int) + 1 := IntWalk.i64_in _ (by omega)
            have hw2 : IntKind.i64.wrap (((s[i]'hi).toNat : Int) + ((s[i + 1]'hj).toNat : Int)) = ((s[i]'hi).toNat : Int) + ((s[i + 1]'hj).toNat : Int) := IntWalk.i64_in _ (by omega)
            have hws0 : (0 : Int) ≤ (i : Int) + 1 := by omega
            have hwt : ((i : Int) + 1).toNat = i + 1 := by omega
            go_quiet (fail)
            clear hw1 hw2
            go_wp2
            go_ret
            exact ⟨rfl, below_drewN HB4.out _⟩
          · have hne9 : (m2 != n) = true := bne_iff_ne.2 (HZ.out (Or.inr ⟨hq48, hq57⟩))
            clear HZ
            go_wp2_with fail
            have hq1 : ((((s[i]'hi).toNat : Int) + ((s[i + 1]'hj).toNat : Int)) != 105) = false := by rw [hq]; rfl
            clear hq
            have hq2 := bne_iff_ne.2 hq48
            have hq3 := bne_iff_ne.2 hq57
            clear hq48 hq57
            have hi1 : (i : Int) < (s.size : Int) := by omega
            have hi2 : (i : Int) + 1 < (s.size : Int) := by omega
            have hab := hla
            have hbb := hlb
            have hw1 : IntKind.i64.wrap ((i : Int) + 1) = (i : Int) + 1 := IntWalk.i64_in _ (by omega)
            have hw2 : IntKind.i64.wrap (((s[i]'hi).toNat : Int) + ((s[i + 1]'hj).toNat : Int)) = ((s[i]'hi).toNat : Int) + ((s[i + 1]'hj).toNat : Int) := IntWalk.i64_in _ (by omega)
            have hws0 : (0 : Int) ≤ (i : Int) + 1 := by omega
            have hwt : ((i : Int) + 1).toNat = i + 1 := by omega
            go_quiet (fail)
            clear hw1 hw2
            go_wp2_with fail
            refine (luhn_yes _ _ rfl HK2.out HD2.out _).mono ?_
            rintro e w6 ⟨rfl, rfl⟩
            rw [hm2.out]
            go_wp2
            go_ret
            exact ⟨rfl, below_drewN HB4.out _⟩
      · have hne9 : (m2 != n) = true := bne_iff_ne.2 (HZ.out (Or.inl hq))
        clear HZ
        go_wp2_with fail
        have hq1 := bne_iff_ne.2 hq
        have hi1 : (i : Int) < (s.size : Int) := by omega
        have hi2 : (i : Int) + 1 < (s.size : Int) := by omega
        have hab := hla
        have hbb := hlb
        have hw1 : IntKind.i64.wrap ((i : Int) + 1) = (i : Int) + 1 := IntWalk.i64_in _ (by omega)
        have hw2 : IntKind.i64.wrap (((s[i]'hi).toNat : Int) + ((s[i + 1]'hj).toNat : Int)) = ((s[i]'hi).toNat : Int) + ((s[i + 1]'hj).toNat : Int) := IntWalk.i64_in _ (by omega)
        have hws0 : (0 : Int) ≤ (i : Int) + 1 := by omega
        have hwt : ((i : Int) + 1).toNat = i + 1 := by omega
        go_quiet (fail)
        clear hw1 hw2
        go_wp2_with fail
        refine (luhn_yes _ _ rfl HK2.out HD2.out _).mono ?_
        rintro e w6 ⟨rfl, rfl⟩
        rw [hm2.out]
        go_wp2
        go_ret
        exact ⟨rfl, below_drewN HB4.out _⟩
  · obtain ⟨hne1, hD1, hl1⟩ := he
    have he1 := K1.out S1 hne1
    have HD1 := Lib.hid hD1
    obtain ⟨m1, hm1⟩ : ∃ m1, Hid (Chk.luhn S1.data.toList = m1) := ⟨_, Lib.hid rfl⟩
    rw [hm1.out, hn.out] at hl1
    have hmn : (m1 == n) = false := beq_eq_false_iff_ne.2 hl1
    clear hne1 hD1 hl1
    rcases H2.out with he2 | he2
    · have he3 := K0.out S2 he2
      clear he2 K0 K1 H1 H2
      go_wp2_with fail
      refine (luhn_yes _ _ rfl HK1.out HD1.out _).mono ?_
      rintro e w5 ⟨rfl, rfl⟩
      rw [hm1.out]
      go_wp2_with fail
      go_quiet (fail)
      go_wp2
      go_ret
      exact ⟨rfl, below_drewN HB4.out _⟩
    · obtain ⟨hne2, hD2, hli, hlj, hda, hdb, hz2⟩ := he2
      have hj : i + 1 < s.size := by rw [← HNL.out]; exact hlj
      rw [← get_data HL.out i hi hli] at hda hz2
      rw [← get_data HL.out (i + 1) hj hlj] at hdb hz2
      have hla := (s[i]'hi).toNat_lt
      have hlb := (s[i + 1]'hj).toNat_lt
      have he3 := K1.out S2 hne2
      have HD2 := Lib.hid hD2
      obtain ⟨m2, hm2⟩ : ∃ m2, Hid (Chk.luhn S2.data.toList = m2) := ⟨_, Lib.hid rfl⟩
      rw [hm2.out, hn.out] at hz2
      have HZ := Lib.hid hz2
      clear hne2 hD2 hda hdb hz2 hli hlj
      clear K0 K1 H1 H2
      by_cases hq : ((s[i]'hi).toNat : Int) + ((s[i + 1]'hj).toNat : Int) = 105
      · by_cases hq48 : ((s[i]'hi).toNat : Int) = 48
        · clear HZ
          go_wp2_with fail
          refine (luhn_yes _ _ rfl HK1.out HD1.out _).mono ?_
          rintro e w5 ⟨rfl, rfl⟩
          rw [hm1.out]
          go_wp2_with fail
          have hq1 : ((((s[i]'hi).toNat : Int) + ((s[i + 1]'hj).toNat : Int)) != 105) = false := by rw [hq]; rfl
          clear hq
          have hq2 : (((s[i]'hi).toNat : Int) != 48) = false := by rw [hq48]; rfl
          clear hq48
          have hi1 : (i : Int) < (s.size : Int) := by omega
          have hi2 : (i : Int) + 1 < (s.size : Int) := by omega
          have hab := hla
          have hbb := hlb
          have hw1 : IntKind.i64.wrap ((i : Int) + 1) = (i : Int) + 1 := IntWalk.i64_in _ (by omega)
          have hw2 : IntKind.i64.wrap (((s[i]'hi).toNat : Int) + ((s[i + 1]'hj).toNat : Int)) = ((s[i]'hi).toNat : Int) + ((s[i + 1]'hj).toNat : Int) := IntWalk.i64_in _ (by omega)
          have hws0 : (0 : Int) ≤ (i : Int) + 1 := by omega
          have hwt : ((i : Int) + 1).toNat = i + 1 := by omega
          go_quiet (fail)
          clear hw1 hw2
          go_wp2
          go_ret
          exact ⟨rfl, below_drewN HB4.out _⟩
        · by_cases hq57 : ((s[i]'hi).toNat : Int) = 57
          · clear HZ hq48
            go_wp2_with fail
            refine (luhn_yes _ _ rfl HK1.out HD1.out _).mono ?_
            rintro e w5 ⟨rfl, rfl⟩
            rw [hm1.out]
            go_wp2_with fail
            have hq1 : ((((s[i]'hi).toNat : Int) + ((s[i + 1]'hj).toNat : Int)) != 105) = false := by rw [hq]; rfl
            clear hq
            have hq2 : (((s[i]'hi).toNat : Int) != 48) = true := by rw [hq57]; rfl
            have hq3 : (((s[i]'hi).toNat : Int) != 57) = false := by rw [hq57]; rfl
            clear hq57
            have hi1 : (i : Int) < (s.size : Int) := by omega
            have hi2 : (i : Int) + 1 < (s.size : Int) := by omega
            have hab := hla
            have hbb := hlb
            have hw1 : IntKind.i64.wrap ((i : Int) + 1) = (i : Int) + 1 := IntWalk.i64_in _ (by omega)
            have hw2 : IntKind.i64.wrap (((s[i]'hi).toNat : Int) + ((s[i + 1]'hj).toNat : Int)) = ((s[i]'hi).toNat : Int) + ((s[i + 1]'hj).toNat : Int) := IntWalk.i64_in _ (by omega)
            have hws0 : (0 : Int) ≤ (i : Int) + 1 := by omega
            have hwt : ((i : Int) + 1).toNat = i + 1 := by omega
            go_quiet (fail)
            clear hw1 hw2
            go_wp2
            go_ret
            exact ⟨rfl, below_drewN HB4.out _⟩
          · have hne9 : (m2 != n) = true := bne_iff_ne.2 (HZ.out (Or.inr ⟨hq48, hq57⟩))
            clear HZ
            go_wp2_with fail
            refine (luhn_yes _ _ rfl HK1.out HD1.out _).mono ?_
            rintro e w5 ⟨rfl, rfl⟩
            rw [hm1.out]
            go_wp2_with fail
            have hq1 : ((((s[i]'hi).toNat : Int) + ((s[i + 1]'hj).toNat : Int)) != 105) = false := by rw [hq]; rfl
            clear hq
            have hq2 := bne_iff_ne.2 hq48
            have hq3 := bne_iff_ne.2 hq57
            clear hq48 hq57
            have hi1 : (i : Int) < (s.size : Int) := by omega
            have hi2 : (i : Int) + 1 < (s.size : Int) := by omega
            have hab := hla
            have hbb := hlb
            have hw1 : IntKind.i64.wrap ((i : Int) + 1) = (i : Int) + 1 := IntWalk.i64_in _ (by omega)
            have hw2 : IntKind.i64.wrap (((s[i]'hi).toNat : Int) + ((s[i + 1]'hj).toNat : Int)) = ((s[i]'hi).toNat : Int) + ((s[i + 1]'hj).toNat : Int) := IntWalk.i64_in _ (by omega)
            have hws0 : (0 : Int) ≤ (i : Int) + 1 := by omega
            have hwt : ((i : Int) + 1).toNat = i + 1 := by omega
            go_quiet (fail)
            clear hw1 hw2
            go_wp2_with fail
            refine (luhn_yes _ _ rfl HK2.out HD2.out _).mono ?_
            rintro e w6 ⟨rfl, rfl⟩
            rw [hm2.out]
            go_wp2
            go_ret
            exact ⟨rfl, below_drewN HB4.out _⟩
      · have hne9 : (m2 != n) = true := bne_iff_ne.2 (HZ.out (Or.inl hq))
        clear HZ
        go_wp2_with fail
        refine (luhn_yes _ _ rfl HK1.out HD1.out _).mono ?_
        rintro e w5 ⟨rfl, rfl⟩
        rw [hm1.out]
        go_wp2_with fail
        have hq1 := bne_iff_ne.2 hq
        have hi1 : (i : Int) < (s.size : Int) := by omega
        have hi2 : (i : Int) + 1 < (s.size : Int) := by omega
        have hab := hla
        have hbb := hlb
        have hw1 : IntKind.i64.wrap ((i : Int) + 1) = (i : Int) + 1 := IntWalk.i64_in _ (by omega)
        have hw2 : IntKind.i64.wrap (((s[i]'hi).toNat : Int) + ((s[i + 1]'hj).toNat : Int)) = ((s[i]'hi).toNat : Int) + ((s[i + 1]'hj).toNat : Int) := IntWalk.i64_in _ (by omega)
        have hws0 : (0 : Int) ≤ (i : Int) + 1 := by omega
        have hwt : ((i : Int) + 1).toNat = i + 1 := by omega
        go_quiet (fail)
        clear hw1 hw2
        go_wp2_with fail
        refine (luhn_yes _ _ rfl HK2.out HD2.out _).mono ?_
        rintro e w6 ⟨rfl, rfl⟩
        rw [hm2.out]
        go_wp2
        go_ret
        exact ⟨rfl, below_drewN HB4.out _⟩
theorem luhn_law (s : ByteArray) (l : List UInt8) (hl : s.data.toList = l) (hs : s.size ≤ 150000000000000) (p : Int) (c : UInt8) (A : Nat → Addr) (w : World) (hG : Glob37 w.heap.size w A) :
    Calls Tryd.prog 8 #[.string s, .int .i64 p, .int .u8 (c.toNat : Int)] w fun e w' => e = .returned (.bool true) ∧ Below w.heap.size w w' := by
  cases hv : Chk.ldig l
  · exact luhn_in s l hl hs p c A w hG hv
  · exact luhn_va s l hl hs p c A w hG hv
end Go.Proofs.YtnigkjpcccccbaaDoor
