/-
  Walks over statements of layer 2: there and back.
-/
import Derived.Test.YtfgkgehlokabgaaDoorClean
import Derived.Test.YtfgkgehlokabgaaDoorErr
namespace Go.Proofs.YtfgkgehlokabgaaDoor
open Go.RowKit

theorem split_yes_at {w : World} {x : Value} (hc : w.cell? ⟨0, 0, none⟩ = some x) {l : List UInt8} {ps : List Ky.Part} (hk : Ky.IsKey l ps) (s : ByteArray) (hl : s.data.toList = l) (hs : s.size ≤ 1073741824) (n : Nat) (hn : ps.length = n) (W : World) (hb : Below w.heap.size w W) :
    Calls Tryd.prog 7 #[.string s] W fun e w' => ∃ ad cap, e = .returned (.tuple #[.slice ad n cap, .nilIface]) ∧ n ≤ cap ∧ In w' ad n (lof ps) ∧ (0 < n → ∃ g, ad = some ⟨g, 0, none⟩) ∧ Below W.heap.size W w' := by
  have hg := lt_of_cell hc
  refine (split_walk s l hl hs x w.heap.size W hb.size hg ((hb.cell (p := ⟨0, 0, none⟩) hg).trans hc)).mono ?_
  rintro e w' ⟨h1, _, h3⟩
  obtain ⟨v, rfl, ho⟩ := h1 ps hk
  obtain ⟨ad, cap, rfl, hcap, hin, hsome⟩ := own_in ho hk (by rw [← hl, size_toList]; omega) n hn
  exact ⟨ad, cap, rfl, hcap, hin, hsome, h3⟩
theorem split_no_at {w : World} {x : Value} (hc : w.cell? ⟨0, 0, none⟩ = some x) {l : List UInt8} (hk : ∀ ps, ¬ Ky.IsKey l ps) (s : ByteArray) (hl : s.data.toList = l) (hs : s.size ≤ 1073741824) (W : World) (hb : Below w.heap.size w W) :
    Calls Tryd.prog 7 #[.string s] W fun e w' => e = .returned (.tuple #[.slice none 0 0, x]) ∧ Below W.heap.size W w' := by
  have hg := lt_of_cell hc
  refine (split_walk s l hl hs x w.heap.size W hb.size hg ((hb.cell (p := ⟨0, 0, none⟩) hg).trans hc)).mono ?_
  rintro e w' ⟨_, h2, h3⟩
  exact ⟨h2 hk, h3⟩
theorem nrm_nrm (p : PV) : p.nrm.nrm = p.nrm := by
  obtain ⟨b, n, s⟩ := p
  cases b <;> rfl
theorem lof_nrm (A : Nat → PV) (n i : Nat) (h : i < n) : lof ((lst A n).map Ky.norm) i = (A i).nrm := by
  refine toP_inj ?_
  rw [lof_toP _ _ (by simpa [lst] using h), nrm_toP]
  simp [lst]
theorem lof_append_left (P Q : List Ky.Part) (i : Nat) (h : i < P.length) : lof (P ++ Q) i = lof P i := by
  unfold lof
  rw [List.getElem?_append_left h]
theorem lof_append_right (P Q : List Ky.Part) (m i : Nat) (h : P.length = m) : lof (P ++ Q) (m + i) = lof Q i := by
  unfold lof
  rw [List.getElem?_append_right (by omega), h, Nat.add_sub_cancel_left]
theorem lof_clean (ps : List Ky.Part) (h : ∀ p ∈ ps, Ky.norm p = p) (n : Nat) (hn : ps.length = n) : ∀ i, i < n → (lof ps i).nrm = lof ps i := fun i hi => by
  refine toP_inj ?_
  rw [nrm_toP, lof_toP ps i (by omega)]
  exact h _ (List.getElem_mem _)
theorem append_list (x y : ByteArray) : (x ++ y).data.toList = x.data.toList ++ y.data.toList := by simp
theorem size_part (W : World) : (sizeOf (Tryd.prog.elem 22)).run Tryd.prog W = .ok 3 W := by
  obtain ⟨i0, hi, _, hz1, _⟩ := info_parts part_info
  rw [show Tryd.prog.elem 22 = 39 by kernel_rfl]
  simp [sizeOf, typeInfo, hi, hz1]
/-- The first m of a list. -/
theorem slice_take (ad : Option Addr) (n cap m : Nat) (hm : m ≤ n) (hc : n ≤ cap) (had : 0 < n → ∃ g, ad = some ⟨g, 0, none⟩) (W : World) :
    (Instr.slice 22 (.slice ad n cap) none (some (.int .i64 (m : Int))) none).run Tryd.prog W = .ok (.slice ad m cap) W := by
  rw [run_slice_h W 22 ad n cap Tryd.underlying22 .i64 (m : Int) (by omega) (by omega)]
  rw [size_part]
  by_cases hn : 0 < n
  · obtain ⟨g, rfl⟩ := had hn
    simp [sliced, Addr.add, Result.andThen]
  · obtain rfl : n = 0 := by omega
    obtain rfl : m = 0 := by omega
    cases ad <;> simp [sliced, Addr.add, Result.andThen]
/-- The rest of a list from m on. -/
theorem slice_drop (ad : Option Addr) (m n cap : Nat) (hc : m + n ≤ cap) (had : 0 < m + n → ∃ g, ad = some ⟨g, 0, none⟩) (w : World) (L : Nat → PV) (h : In w ad (m + n) L) :
    ∃ ad' cap', In w ad' n (fun i => L (m + i)) ∧ ∀ W : World, (Instr.slice 22 (.slice ad (m + n) cap) (some (.int .i64 (m : Int))) none none).run Tryd.prog W = .ok (.slice ad' n cap') W := by
  refine ⟨if cap = m then ad else ad.map (·.add (m * 3)), cap - m, ?_, fun W => ?_⟩
  · by_cases hn : 0 < n
    · obtain ⟨g, rfl⟩ := had (by omega)
      rw [if_neg (by omega)]
      have := h.drop_some
      have e : (some ⟨g, 0, none⟩ : Option Addr).map (·.add (m * 3)) = some ⟨g, m * 3, none⟩ := by
        by_cases h0 : m = 0
        · subst h0; simp [Addr.add]
        · have h1 : ¬ m * 3 = 0 := by omega
          simp [Addr.add, h1]
      rw [e]
      exact this
    · obtain rfl : n = 0 := by omega
      exact In.zero _ _ _
  · rw [run_slice_l W 22 ad (m + n) cap Tryd.underlying22 .i64 (m : Int) (by omega) (by omega), size_part]
    simp [sliced, Result.andThen]
theorem same_of (A B : Nat → PV) (n : Nat) (h : ∀ i, i < n → A i = (B i).nrm) : sameB A B n n = true := sameB_all A B n fun i hi => by rw [h i hi, nrm_nrm]
set_option maxRecDepth 100000 in
set_option maxHeartbeats 8000000 in
theorem back_law (ad bd : Option Addr) (na ca nb cb : Nat) (A B : Nat → PV) (key : ByteArray) (a : Addr) (w : World) (hA : In w ad na A) (hB : In w bd nb B) (hkA : (ks A na).length ≤ 268435456) (hkB : (ks B nb).length ≤ 268435456) (hks : key.size ≤ 1073741824)
    (hc : w.cell? ⟨0, 0, none⟩ = some (.iface 59 (.pointer (some a)))) :
    Calls Tryd.prog 3 #[.slice ad na ca, .slice bd nb cb, .string key] w fun e w' => e = .returned (.bool true) ∧ Below w.heap.size w w' := by
  obtain ⟨ip, hip, hcomp⟩ := Option.map_eq_some_iff.1 errp_info
  obtain ⟨is, his, hsz⟩ := Option.map_eq_some_iff.1 errs_info
  have heq := hide fun (W : World) => run_eql_iface_ptr_same W a Tryd.underlying25 Tryd.underlying59 hip hcomp his
  have hnn := hide fun (W : World) => (by kernel_rfl : (binOp .neq 25 .nilIface .nilIface).run Tryd.prog W = .ok (.bool false) W)
  have hHC := Lib.hid hc
  obtain ⟨x, hx⟩ : ∃ t, Hid (keyS A na = t) := ⟨_, Lib.hid rfl⟩
  obtain ⟨y, hy⟩ : ∃ t, Hid (keyS B nb = t) := ⟨_, Lib.hid rfl⟩
  have hxl : x.data.toList = ks A na := by rw [← hx.out]; exact keyS_list A na
  have hyl : y.data.toList = ks B nb := by rw [← hy.out]; exact keyS_list B nb
  have hxs : x.size = (ks A na).length := by rw [← hxl, size_toList]
  have hys : y.size = (ks B nb).length := by rw [← hyl, size_toList]
  have hzl : (x ++ y).data.toList = ks A na ++ ks B nb := by rw [append_list, hxl, hyl]
  have hxb : x.size ≤ 268435456 := by omega
  have hyb : y.size ≤ 268435456 := by omega
  have hzs : (x ++ y).size = x.size + y.size := by simp
  have kA := isKey_norm A na hA.fine
  have kB := isKey_norm B nb hB.fine
  have kAB := isKey_append kA kB
  have lA : ((lst A na).map Ky.norm).length = na := by simp [lst]
  have lB : ((lst B nb).map Ky.norm).length = nb := by simp [lst]
  have eA : ∀ i, i < na → lof ((lst A na).map Ky.norm) i = (A i).nrm := fun i hi => lof_nrm A na i hi
  have eAB1 : ∀ i, i < na → lof ((lst A na).map Ky.norm ++ (lst B nb).map Ky.norm) i = (A i).nrm := fun i hi => by rw [lof_append_left _ _ i (by omega), eA i hi]
  have eAB2 : ∀ i, i < nb → lof ((lst A na).map Ky.norm ++ (lst B nb).map Ky.norm) (na + i) = (B i).nrm := fun i hi => by rw [lof_append_right _ _ na i lA, lof_nrm B nb i hi]
  have J1 := hide fun W hb => join_at hA ca x hx W hb
  have J2 := hide fun W hb => join_at hB cb y hy W hb
  have S1 := hide fun W hb => split_yes_at hc kA x hxl (by omega) na lA W hb
  have S2 := hide fun W hb => split_yes_at hc kAB (x ++ y) hzl (by omega) (na + nb) (by rw [List.length_append, lA, lB]) W hb
  have q1 := Lib.hid (same_of _ A na eA)
  have q2 := Lib.hid (same_of _ A na eAB1)
  have q3 := Lib.hid (same_of _ B nb eAB2)
  have q4 := Lib.hid (lof_clean _ kA.2.1 na lA)
  have hIA := Lib.hid hA
  have hIB := Lib.hid hB
  have hna := hA.n_le
  have hnb := hB.n_le
  have hsum : Hid (((na + nb : Nat) : Int) = (na : Int) + (nb : Int)) := Lib.hid (by omega)
  have HS := Lib.hid hks
  generalize hPe : (lst A na).map Ky.norm = P at *
  generalize hQe : (lst B nb).map Ky.norm = Q at *
  clear hxl hyl hxs hys hzl hzs kA kB kAB lA lB eA eAB1 eAB2 hkA hkB hks hx hy hA hB hc hip hcomp his hsz hPe hQe
  go_enter Tryd.func3, Tryd.ntmps3
  go_wp2_with fail
  refine (lives_any _).mono ?_
  rintro e w1 ⟨rfl, hb⟩
  have HB1 := Lib.hid hb
  clear hb
  go_wp2_with fail
  refine (unhide J1 _ HB1.out).mono ?_
  rintro e w2 ⟨rfl, hb⟩
  have HB2 := Lib.hid (HB1.out.trans (hb.mono HB1.out.size))
  clear hb
  go_wp2_with fail
  refine (unhide S1 _ HB2.out).mono ?_
  rintro e w3 ⟨ad1, cap1, rfl, hcap1, hX, hsome1, hb⟩
  have HB3 := Lib.hid (HB2.out.trans (hb.mono HB2.out.size))
  have HX := Lib.hid hX
  have hhn := unhide hnn
  clear hb hsome1 hX
  go_wp2_with fail
  refine (same_at HX.out (hIA.out.later HB3.out) cap1 ca true q1 w3 (Below.refl _ _)).mono ?_
  rintro e w4 ⟨rfl, hb⟩
  have HB4 := Lib.hid (HB3.out.trans (hb.mono HB3.out.size))
  have H34 := Lib.hid hb
  clear hb
  go_wp2_with fail
  refine (clean_at HX.out cap1 q4.out w4 H34.out).mono ?_
  rintro e w5 ⟨rfl, hb⟩
  have HB5 := Lib.hid (HB4.out.trans (hb.mono HB4.out.size))
  clear hb
  go_wp2_with fail
  refine (unhide J1 _ HB5.out).mono ?_
  rintro e w6 ⟨rfl, hb⟩
  have HB6 := Lib.hid (HB5.out.trans (hb.mono HB5.out.size))
  clear hb
  go_wp2_with fail
  refine (unhide J2 _ HB6.out).mono ?_
  rintro e w7 ⟨rfl, hb⟩
  have HB7 := Lib.hid (HB6.out.trans (hb.mono HB6.out.size))
  clear hb
  go_wp2_with fail
  refine (unhide S2 _ HB7.out).mono ?_
  rintro e w8 ⟨ad2, cap2, rfl, hcap2, hX2, hsome2, hb⟩
  have HB8 := Lib.hid (HB7.out.trans (hb.mono HB7.out.size))
  have HX2 := Lib.hid (hX2.take (Nat.le_add_right na nb))
  have t1 := fun W => slice_take ad2 (na + nb) cap2 na (Nat.le_add_right na nb) hcap2 hsome2 W
  obtain ⟨ad3, cap3, hX3, t2⟩ := slice_drop ad2 na nb cap2 hcap2 hsome2 w8 _ hX2
  have HX3 := Lib.hid hX3
  clear hb hX2 hX3 hsome2
  go_wp2_with fail
  refine (same_at HX2.out (hIA.out.later HB8.out) cap2 ca true q2 w8 (Below.refl _ _)).mono ?_
  rintro e w9 ⟨rfl, hb⟩
  have HB9 := Lib.hid (HB8.out.trans (hb.mono HB8.out.size))
  have H89 := Lib.hid hb
  clear hb
  go_wp2_with fail
  refine (same_at HX3.out (hIB.out.later HB8.out) cap3 cb true q3 w9 H89.out).mono ?_
  rintro e w10 ⟨rfl, hb⟩
  have HB10 := Lib.hid (HB9.out.trans (hb.mono HB9.out.size))
  clear hb t1 t2
  rcases Classical.em (∃ ps, Ky.IsKey key.data.toList ps) with ⟨ps, hk⟩ | hk
  · have S3 := hide fun W hb => split_yes_at hHC.out hk key rfl HS.out ps.length rfl W hb
    have q5 := Lib.hid (lof_clean ps hk.2.1 ps.length rfl)
    have q6 : Hid (keyS (lof ps) ps.length = key) := Lib.hid (Go.WideShapes.bytes_inj (by rw [keyS_list, ks_lof ps _ rfl, hk.1]))
    clear hk
    go_wp2_with fail
    refine (unhide S3 _ HB10.out).mono ?_
    rintro e w11 ⟨ad4, cap4, rfl, hcap4, hZ, _, hb⟩
    have HB11 := Lib.hid (HB10.out.trans (hb.mono HB10.out.size))
    have HZ := Lib.hid hZ
    clear hb hZ
    go_wp2_with fail
    refine (join_at HZ.out cap4 key q6 w11 (Below.refl _ _)).mono ?_
    rintro e w12 ⟨rfl, hb⟩
    have HB12 := Lib.hid (HB11.out.trans (hb.mono HB11.out.size))
    have H1 := Lib.hid hb
    clear hb
    go_wp2_with fail
    refine (clean_at HZ.out cap4 q5.out w12 H1.out).mono ?_
    rintro e w13 ⟨rfl, hb⟩
    have HB13 := Lib.hid (HB12.out.trans (hb.mono HB12.out.size))
    clear hb
    go_wp2_with fail
    go_ret
    exact ⟨rfl, HB13.out⟩
  · have S3 := hide fun W hb => split_no_at hHC.out (fun ps h => hk ⟨ps, h⟩) key rfl HS.out W hb
    have hne : ∀ W : World, (binOp .neq 25 (.iface 59 (.pointer (some a))) .nilIface).run Tryd.prog W = .ok (.bool true) W := fun W => by kernel_rfl
    clear hk
    go_wp2_with fail
    refine (unhide S3 _ HB10.out).mono ?_
    rintro e w11 ⟨rfl, hb⟩
    have HB11 := Lib.hid (HB10.out.trans (hb.mono HB10.out.size))
    have hc2 : w11.cell? ⟨0, 0, none⟩ = some (.iface 59 (.pointer (some a))) := (HB11.out.cell (p := ⟨0, 0, none⟩) (lt_of_cell hHC.out)).trans hHC.out
    have heq2 := unhide heq
    clear hb
    go_wp2_with fail
    go_ret
    exact ⟨rfl, HB11.out⟩
end Go.Proofs.YtfgkgehlokabgaaDoor
