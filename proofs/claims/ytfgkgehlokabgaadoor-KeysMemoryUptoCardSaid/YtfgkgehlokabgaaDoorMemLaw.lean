/-
  Walks over statements of layer 2: what a call leaves in memory.
-/
import Derived.Test.YtfgkgehlokabgaaDoorMem2
import Derived.Deep.CutBlock
namespace Go.Proofs.YtfgkgehlokabgaaDoor
open Go.RowKit

/-- Append of parts that the statement lists. -/
theorem wpList_appPs {ops : Array Oper} {rest : List Oper} {o : Oper} {a : Act} {Q : Exit → Act → World → Prop} (hgd : o.guard = none) (s x : Operand)
    (ho : o.op = .call { callee := .builtin .append, args := #[s, x], argTypes := #[22, 22] })
    (B : Nat) (v : Value) (l ps : List Ky.Part) (W : World) (cs : Array Value) (hs : a.eval s = v) (hown : OwnP W B v l) (g : Nat) (hx : a.eval x = .slice (some ⟨g, 0, none⟩) ps.length ps.length) (hgW : g = W.heap.size)
    (hcs : cs = (ps.flatMap cellsP).toArray) (hlen : l.length + ps.length ≤ 1099511627776) (hB : B ≤ W.heap.size)
    (h : ∀ v' w1, Hid (OwnP w1 B v' (l ++ ps)) → Hid (∀ w, Below B w W → Below B w w1) → wpList Tryd.prog ops Q rest (a.put o.dst v') w1) : wpList Tryd.prog ops Q (o :: rest) a (W.alloc (.cells cs 39)) := by
  obtain ⟨i0, hi, hz0, hz1, hz2⟩ := info_parts part_info
  subst hcs hgW
  refine wpList_append_own _ hgd s x 22 ho B 39 i0 (.agg #[.bool false, .int .i64 0, .string ⟨#[]⟩]) 3 32 Tryd.underlying22 hi hz0 hz1 hz2 rfl (by decide) v l.length (l.flatMap cellsP) hs (World.ownsRow.alloc hown _) ⟨W.heap.size, 0, none⟩ ps.length ps.length (ps.flatMap cellsP) hx (cellsP_length ps)
    (cells_new W _ _) (fun u hu => ?_) (by unfold maxLen; omega) (by omega) (by simp; omega) ?_
  · obtain ⟨q, _, hq⟩ := List.mem_flatMap.1 hu
    simp only [cellsP, List.mem_cons, List.not_mem_nil, or_false] at hq
    rcases hq with rfl | rfl | rfl <;> rfl
  · intro v' w1 h1 h2 _
    refine h v' w1 (Lib.hid ?_) (Lib.hid fun w hb => (hb.alloc hB _).grown h2 (by simp; omega) (fun j hj => by have := (World.ownsRow.lt hown j hj).1; omega))
    unfold OwnP
    rw [List.length_append, List.flatMap_append]
    simpa using h1
theorem OwnP.form {w : World} {B : Nat} {v : Value} {l : List Ky.Part} (h : OwnP w B v l) (hl : 0 < l.length) : ∃ g cap, v = .slice (some ⟨g, 0, none⟩) l.length cap ∧ l.length ≤ cap := by
  rcases h.2 with ⟨_, h0⟩ | ⟨g, cap, cur, hv, _, _, hc, _⟩
  · omega
  · exact ⟨g, cap, hv, hc⟩
def spareP : Ky.Part := ⟨false, 0, [115, 112, 97, 114, 101]⟩
def roomP : Ky.Part := ⟨false, 0, [114, 111, 111, 109]⟩
theorem len_le_ks (L : Nat → PV) (n : Nat) : n ≤ (ks L n).length := by
  induction n with
  | zero => omega
  | succ n ih =>
    rw [ks_succ, List.length_append]
    have := form_pos' (L n).toP
    omega
set_option maxRecDepth 100000 in
set_option maxHeartbeats 8000000 in
theorem memory_law (ad bd : Option Addr) (na ca nb cb : Nat) (A B : Nat → PV) (a : Addr) (w : World) (hA : In w ad na A) (hB : In w bd nb B) (hkA : (ks A na).length ≤ 268435456) (hadn : ad = none → na = 0 ∧ ca = 0)
    (hc : w.cell? ⟨0, 0, none⟩ = some (.iface 59 (.pointer (some a)))) :
    Calls Tryd.prog 5 #[.slice ad na ca, .slice bd nb cb] w fun e w' => e = .returned (.bool true) ∧ Below w.heap.size w w' := by
  have hna := Nat.le_trans (len_le_ks A na) hkA
  have hIA := Lib.hid hA
  have hIB := Lib.hid hB
  have HAD := Lib.hid hadn
  have HC := Lib.hid hc
  have HKA := Lib.hid hkA
  have hll : Hid ((lst A na).length = na) := Lib.hid (by simp [lst])
  clear hA hB hadn hc hkA
  go_enter Tryd.func5, Tryd.ntmps5
  go_wp2_with fail
  refine (lives_any _).mono ?_
  rintro e w1 ⟨rfl, hb⟩
  have HB1 := Lib.hid hb
  clear hb
  have hst := Lib.hid (OwnP.new w1 w.heap.size HB1.out.size)
  have HB2 := Lib.hid (HB1.out.alloc HB1.out.size (.cells #[] 39))
  have hs2 := Lib.hid ((hIA.out.later HB2.out).at_)
  go_upto_region 5 with (first
    | (at_builtin; refine wpList_appPs rfl _ _ rfl w.heap.size _ _ [spareP, roomP] _ _ (by rfl) h3.out _ (by rfl) (by first | rfl | simp) (by rfl) (by have := hll.out; simp; omega) (g3.out _ HB2.out).size ?_; intro v4 w4 h4 g4)
    | (at_builtin; refine wpList_appL rfl _ _ rfl w.heap.size _ [] _ (by rfl) hst.out ad na ca A (by rfl) HAD.out hs2.out (by simp; omega) HB2.out.size ?_; intro v3 w3 h3 g3))
  have HB4 := Lib.hid (g4.out _ (g3.out _ HB2.out))
  obtain ⟨R, hR⟩ : ∃ R, Hid (([] ++ lst A na) ++ [spareP, roomP] = R) := ⟨_, Lib.hid rfl⟩
  rw [hR.out] at h4
  have hRl : Hid (R.length = na + 2) := by rw [← hR.out]; have := hll.out; exact Lib.hid (by simp; omega)
  obtain ⟨g, cap, hv4, hcap⟩ := h4.out.form (by have := hRl.out; omega)
  rw [hRl.out] at hv4 hcap
  subst hv4
  have hRA : Hid (∀ i, i < na → lof R i = A i) := Lib.hid fun i hi => by
    refine toP_inj ?_
    have h1 : i < (lst A na).length := by have := hll.out; omega
    rw [← hR.out, List.nil_append, lof_append_left _ _ i h1, lof_toP _ i h1]
    simp [lst]
  obtain ⟨md, hmd⟩ : ∃ md : Option Addr, Hid (md = some ⟨g, 0, none⟩) := ⟨_, Lib.hid rfl⟩
  have t1 : ∀ W : World, (Instr.slice 22 (.slice md (na + 2) cap) none (some (.int .i64 (na : Int))) none).run Tryd.prog W = .ok (.slice md na cap) W := fun W => slice_take md (na + 2) cap na (Nat.le_add_right na 2) hcap (fun _ => ⟨g, hmd.out⟩) W
  have hM : Hid (In w4 md na A) := by
    rw [hmd.out]
    have h1 := (h4.out.sliceIs na (by have := hRl.out; omega)).congr hRA.out
    have h2 := hIA.out
    exact Lib.hid ⟨h1, h2.n_le, h2.ok, h2.key⟩
  have hRm : Hid (SliceIs w4 w4.heap.size md (na + 2) (lof R)) := by
    rw [hmd.out]
    exact Lib.hid (h4.out.sliceIs (na + 2) (by have := hRl.out; omega))
  rw [← hmd.out]
  obtain ⟨x, hx⟩ : ∃ t, Hid (keyS A na = t) := ⟨_, Lib.hid rfl⟩
  obtain ⟨r, hr⟩ : ∃ t, Hid (Ky.cmpL (lst A na) (lst B nb) = t) := ⟨_, Lib.hid rfl⟩
  have hO4 := Lib.hid h4.out
  clear hst hs2 h3 g3 g4 hcap h4
  go_wp2_with fail
  refine (join_at hM.out cap x hx w4 (Below.refl _ _)).mono ?_
  rintro e w5 ⟨rfl, hb⟩
  have H45 := Lib.hid hb
  clear hb t1
  go_wp2_with fail
  refine (compare_at hM.out (hIB.out.later HB4.out) cap cb r hr w5 H45.out).mono ?_
  rintro e w6 ⟨rfl, hb⟩
  have H46 := Lib.hid (H45.out.trans (hb.mono H45.out.size))
  clear hb H45 hr hIB
  obtain ⟨mb, mo, hmo, hmd2⟩ : ∃ mb mo, Hid (mo = 0) ∧ md = some ⟨mb, mo, none⟩ := ⟨g, 0, Lib.hid rfl, hmd.out⟩
  subst hmd2
  have hO5 : Hid (OwnP w4 w.heap.size (.slice (some ⟨mb, mo, none⟩) (na + 2) cap) R) := by rw [hmd.out]; exact hO4
  have hR0 : Hid (lof R na = ⟨false, 0, ⟨#[115, 112, 97, 114, 101]⟩⟩ ∧ lof R (na + 1) = ⟨false, 0, ⟨#[114, 111, 111, 109]⟩⟩) := by
    have h1 : ([] ++ lst A na : List Ky.Part).length = na := by rw [List.nil_append]; exact hll.out
    have h2 := lof_append_right ([] ++ lst A na) [spareP, roomP] na 0 h1
    have h3 := lof_append_right ([] ++ lst A na) [spareP, roomP] na 1 h1
    rw [hR.out] at h2 h3
    exact Lib.hid ⟨h2, h3⟩
  clear hO4 hmd hR
  go_wp2_with fail
  go_loopw [41] (fun i wr => ∃ k : Nat, k ≤ na ∧ i = .int .i64 k ∧ Hid (Below w4.heap.size w4 wr)) (fun i _ => na - (intOf i).toNat)
  case atStart => exact ⟨0, by omega, rfl, H46⟩
  case round =>
    obtain ⟨k, hk, rfl, hW⟩ := hrel
    clear H46
    by_cases hkn : k < na
    · have hkn2 : (k : Int) < (na : Int) := by omega
      obtain ⟨b1, o1, e1, hl1, c0, c1, c2⟩ := (hM.out.later hW.out).at_.at_ k hkn
      obtain ⟨b2, o2, e2, hl2, d0, d1, d2⟩ := ((hIA.out.later HB4.out).later hW.out).at_.at_ k hkn
      simp only [Option.some.injEq, Addr.mk.injEq, and_true] at e1
      obtain ⟨rfl, rfl⟩ := e1
      subst e2
      generalize A k = p at c0 c1 c2 d0 d1 d2
      obtain ⟨pb, pn, ps⟩ := p
      dsimp only at c0 c1 c2 d0 d1 d2
      clear hl1 hl2
      go_wp2_with fail
      go_quiet (fail)
      go_wp2_with fail
      go_roundw
      case rel => exact ⟨k + 1, by omega, by go_num, Lib.hid (by first | exact hW.out | exact ⟨hW.out.os, hW.out.tape, hW.out.output, hW.out.size, hW.out.block⟩)⟩
      case measure => simp [intOf]; omega
    · have hkn2 : ¬ (k : Int) < (na : Int) := by omega
      obtain rfl : k = na := by omega
      have hB7 := Lib.hid (HB4.out.trans (hW.out.mono HB4.out.size))
      have hO7 := Lib.hid (hO5.out.below hW.out (Nat.le_refl _))
      obtain ⟨b1, o1, e1, hl1, c0, c1, c2⟩ := (hRm.out.below hW.out (Nat.le_refl _)).at_ k (by omega)
      obtain ⟨b2, o2, e2, hl2, d0, d1, d2⟩ := (hRm.out.below hW.out (Nat.le_refl _)).at_ (k + 1) (by omega)
      rw [hR0.out.1] at c0 c1 c2
      rw [hR0.out.2] at d0 d1 d2
      simp only [Option.some.injEq, Addr.mk.injEq, and_true] at e1 e2
      obtain ⟨rfl, rfl⟩ := e1
      obtain ⟨rfl, rfl⟩ := e2
      dsimp only at c0 c1 c2 d0 d1 d2
      clear hl1 hl2 hW hO5 hRm hM hR0 hRA
      have hkk : (k : Int) < (k : Int) + 2 := by omega
      have hkk1 : (k : Int) + 1 < (k : Int) + 2 := by omega
      go_wp2_with fail
      clear c0 c1 c2 d0 d1 d2
      go_loopw [73] (fun i wr => ∃ (j : Nat) (R' : List Ky.Part), j ≤ k ∧ i = .int .i64 j ∧ Hid (R'.length = k + 2 ∧ ∀ i, i < j → R'[i]? = some (NP i)) ∧ Hid (OwnP wr w.heap.size (.slice (some ⟨mb, mo, none⟩) (k + 2) cap) R') ∧ Hid (Below w.heap.size w wr)) (fun i _ => k - (intOf i).toNat)
      case atStart => exact ⟨0, R, by omega, rfl, Lib.hid ⟨hRl.out, fun i hi => by omega⟩, hO7, hB7⟩
      case round =>
        obtain ⟨j, R', hj, rfl, hR', hO8, hB8⟩ := hrel
        clear hO7 hB7
        by_cases hjk : j < k
        · have hjk2 : (j : Int) < (k : Int) := by omega
          go_wp2_with fail
          refine (number_any _ _).mono ?_
          rintro e w9 ⟨rfl, hb⟩
          have hO9 := Lib.hid (hO8.out.below hb (Nat.le_refl _))
          have hB9 := Lib.hid (hB8.out.trans (hb.mono hB8.out.size))
          obtain ⟨b2, o2, e2, hl2, d0, d1, d2⟩ := (hO9.out.sliceAt hmo.out (k + 2) (by have := hR'.out.1; omega)).at_ j (by omega)
          simp only [Option.some.injEq, Addr.mk.injEq, and_true] at e2
          obtain ⟨rfl, rfl⟩ := e2
          have hfr := hO9.out.free hmo.out
          clear hb hl2 hO8 hB8
          go_wp2_with fail
          have hst := Lib.hid (hO9.out.setAt hmo.out j (by have := hR'.out.1; omega) (NP j))
          go_roundw
          case rel =>
            refine ⟨j + 1, _, by omega, by go_num, Lib.hid ⟨by rw [List.length_set]; exact hR'.out.1, fun i hi => ?_⟩, hst, ?_⟩
            · by_cases e : i = j
              · subst e
                rw [List.getElem?_set_self (by have := hR'.out.1; omega)]
              · rw [List.getElem?_set_ne (by omega)]
                exact hR'.out.2 i (by omega)
            · have hge := (World.ownsRow.lt hO9.out mb rfl).1
              exact Lib.hid (((hB9.out.setCell hge _).setCell hge _).setCell hge _)
          case measure => simp [intOf]; omega
        · have hjk2 : ¬ (j : Int) < (k : Int) := by omega
          obtain rfl : j = k := by omega
          have hNV : Hid (SliceIs wr wr.heap.size (some ⟨mb, mo, none⟩) j NV) := Lib.hid ((hO8.out.sliceAt hmo.out j (by have := hR'.out.1; omega)).congr fun i hi => lof_at (hR'.out.2 i hi))
          have hIN := Lib.hid (in_NV hna hNV.out)
          have hst := Lib.hid (OwnP.new wr wr.heap.size (Nat.le_refl _))
          have HBs := Lib.hid ((Below.refl wr.heap.size wr).alloc (Nat.le_refl _) (.cells #[] 39))
          have hs2 := Lib.hid ((hIN.out.later HBs.out).at_)
          obtain ⟨y, hy⟩ : ∃ t, Hid (keyS NV j = t) := ⟨_, Lib.hid rfl⟩
          clear hO8 hNV
          go_wp2_with (at_builtin; refine wpList_appL rfl _ _ rfl wr.heap.size _ [] _ (by rfl) hst.out (some ⟨mb, mo, none⟩) j cap NV (by rfl) (fun h => by cases h) hs2.out (by simp; omega) HBs.out.size ?_; intro v3 w3 h3 g3; rw [List.nil_append] at h3)
          have H3 := Lib.hid (g3.out _ HBs.out)
          obtain ⟨fad, fcap, hfv, hff⟩ := h3.out.slc
          have hfl : (lst NV j).length = j := by simp [lst]
          rw [hfl] at hfv hff
          subst hfv
          have hIF : Hid (In w3 fad j NV) := Lib.hid (in_NV hna (by
            rcases hff with ⟨_, rfl, _⟩ | ⟨g', rfl, _⟩
            · exact fun h => absurd h (by omega)
            · refine (h3.out.sliceIs j (by omega)).congr fun i hi => toP_inj ?_
              rw [lof_toP _ i (by omega)]
              simp [lst]))
          clear hst hs2 h3 g3 hff HBs hfl
          refine (join_at hIN.out cap y hy w3 H3.out).mono ?_
          rintro e w4 ⟨rfl, hb⟩
          have H4 := Lib.hid hb
          clear hb
          go_wp2_with fail
          refine (join_at hIF.out fcap y hy w4 H4.out).mono ?_
          rintro e w5 ⟨rfl, hb⟩
          have HB10 := Lib.hid (hB8.out.trans ((H3.out.trans ((H4.out.trans (hb.mono H4.out.size)).mono H3.out.size)).mono hB8.out.size))
          clear hb H3 H4 hIN hIF hB8 hy
          have hxl : Hid (x.data.toList = ks A j) := Lib.hid (by rw [← hx.out]; exact keyS_list A j)
          have hxs : Hid (x.size ≤ 1073741824) := Lib.hid (by rw [← size_toList, hxl.out]; have := HKA.out; omega)
          obtain ⟨P, hP⟩ : ∃ P, Hid ((lst A j).map Ky.norm = P) := ⟨_, Lib.hid rfl⟩
          have hkP : Hid (Ky.IsKey (ks A j) P) := Lib.hid (by rw [← hP.out]; exact isKey_norm A j hIA.out.fine)
          have hPl : Hid (P.length = j) := Lib.hid (by rw [← hP.out]; have := hll.out; simpa using this)
          have hsm : Hid (sameB (lof P) A j j = true) := Lib.hid (same_of _ A j fun i hi => by rw [← hP.out]; exact lof_nrm A j i hi)
          go_wp2_with fail
          refine (split_own_at HC.out hkP.out x hxl.out hxs.out j hPl.out w5 HB10.out).mono ?_
          rintro e w10 ⟨xad, xc, rfl, hxo, hxi, hxf, hb⟩
          have HB11 := Lib.hid (HB10.out.trans (hb.mono HB10.out.size))
          have HXO := Lib.hid (hxo.mono HB10.out.size)
          have HXI := Lib.hid hxi
          have HXF := Lib.hid hxf
          clear hb hxo hxi hxf HB10
          go_wp2_with fail
          refine (split_own_at HC.out hkP.out x hxl.out hxs.out j hPl.out w10 HB11.out).mono ?_
          rintro e w11 ⟨yad, yc, rfl, hyo, hyi, hyf, hb⟩
          have HB12 := Lib.hid (HB11.out.trans (hb.mono HB11.out.size))
          have HXO2 := Lib.hid (HXO.out.below hb (Nat.le_refl _))
          have HXI2 := Lib.hid (HXI.out.later hb)
          have HYI := Lib.hid hyi
          have HYF := Lib.hid hyf
          clear hb hyo hyi hyf HB11 HXO HXI
          go_wp2_with fail
          refine (same_at HXI2.out (hIA.out.later HB12.out) xc ca true hsm w11 (Below.refl _ _)).mono ?_
          rintro e w12 ⟨rfl, hb⟩
          have HB13 := Lib.hid (HB12.out.trans (hb.mono HB12.out.size))
          have HXO3 := Lib.hid (HXO2.out.below hb (Nat.le_refl _))
          have HYI3 := Lib.hid (HYI.out.later hb)
          obtain ⟨xb, hxb⟩ : ∃ xb, Hid ((∀ g, xad = some ⟨g, 0, none⟩ → g = xb) ∧ (∀ b off, 0 < j → yad = some ⟨b, off, none⟩ → b < w12.heap.size ∧ b ≠ xb) ∧ (xad = none → j = 0 ∧ xc = 0)) := by
            rcases HXF.out with ⟨rfl, hj0, hc0⟩ | ⟨g', rfl, _, hg2⟩
            · exact ⟨0, Lib.hid ⟨(fun g h => by cases h), (fun b off h => absurd h (by omega)), fun _ => ⟨hj0, hc0⟩⟩⟩
            · refine ⟨g', Lib.hid ⟨(fun g h => by cases h; rfl), fun b off h0 e => ?_, (fun h => by cases h)⟩⟩
              rcases HYF.out with ⟨rfl, _⟩ | ⟨g2, rfl, h3, h4⟩
              · cases e
              · cases e
                have := hb.size
                exact ⟨by omega, by omega⟩
          have hxform : Hid (xad = none ∨ ∃ g, xad = some ⟨g, 0, none⟩) := Lib.hid (HXF.out.imp (fun h => h.1) fun ⟨g, h, _⟩ => ⟨g, h⟩)
          clear hb HB12 HXO2 HXI2 HYI HXF HYF
          go_wp2_with fail
          go_loopw [114] (fun i wr => ∃ (m : Nat) (X : List Ky.Part), m ≤ j ∧ i = .int .i64 m ∧ Hid (X.length = j ∧ ∀ i, i < m → X[i]? = some markP) ∧ Hid (OwnP wr w.heap.size (.slice xad j xc) X) ∧ Hid (Keep w12.heap.size xb w12 wr) ∧ Hid (Below w.heap.size w wr)) (fun i _ => j - (intOf i).toNat)
          case atStart => exact ⟨0, P, by omega, rfl, Lib.hid ⟨hPl.out, fun i hi => by omega⟩, HXO3, Lib.hid (Keep.refl _ _ _), HB13⟩
          case round =>
            obtain ⟨m, X, hm, rfl, hX, hO14, hK14, hB14⟩ := hrel
            clear HXO3 HB13
            by_cases hmj : m < j
            · have hmj2 : (m : Int) < (j : Int) := by omega
              obtain ⟨xg, xo, hxo, hxe⟩ : ∃ xg xo, Hid (xo = 0) ∧ xad = some ⟨xg, xo, none⟩ := by
                rcases hxform.out with h | ⟨g', h⟩
                · have := (hxb.out.2.2 h).1; omega
                · exact ⟨g', 0, Lib.hid rfl, h⟩
              have hxg : Hid (xg = xb) := Lib.hid (hxb.out.1 xg (by rw [hxe, hxo.out]))
              subst hxe
              obtain ⟨b2, o2, e2, hl2, d0, d1, d2⟩ := (hO14.out.sliceAt hxo.out j (by have := hX.out.1; omega)).at_ m hmj
              simp only [Option.some.injEq, Addr.mk.injEq, and_true] at e2
              obtain ⟨rfl, rfl⟩ := e2
              have hfr := hO14.out.free hxo.out
              clear hl2
              go_wp2_with fail
              have hst := Lib.hid (hO14.out.setAt hxo.out m (by have := hX.out.1; omega) markP)
              have hK15 : Hid (Keep w12.heap.size xb w12 (((wr.setCell ⟨xg, xo + m * 3, none⟩ (.bool false)).setCell ⟨xg, xo + m * 3 + 1, none⟩ (.int .i64 0)).setCell ⟨xg, xo + m * 3 + 2, none⟩ (.string ⟨#[109, 97, 114, 107]⟩))) := by
                rw [hxg.out]
                exact Lib.hid (((hK14.out.set _ _).set _ _).set _ _)
              go_roundw
              case rel =>
                refine ⟨m + 1, _, by omega, by go_num, Lib.hid ⟨by rw [List.length_set]; exact hX.out.1, fun i hi => ?_⟩, hst, hK15, ?_⟩
                · by_cases e : i = m
                  · subst e
                    rw [List.getElem?_set_self (by have := hX.out.1; omega)]
                  · rw [List.getElem?_set_ne (by omega)]
                    exact hX.out.2 i (by omega)
                · have hge := (World.ownsRow.lt hO14.out xg rfl).1
                  exact Lib.hid (((hB14.out.setCell hge _).setCell hge _).setCell hge _)
              case measure => simp [intOf]; omega
            · have hmj2 : ¬ (m : Int) < (j : Int) := by omega
              obtain rfl : m = j := by omega
              have hMK : Hid (∀ i, i < m → lof X i = MK i) := Lib.hid fun i hi => lof_at (hX.out.2 i hi)
              have hSX : Hid (SliceIs wr wr.heap.size xad m MK) := by
                rcases hxform.out with h | ⟨g', h⟩
                · exact Lib.hid fun h0 => absurd (hxb.out.2.2 h).1 (by omega)
                · rw [h] at hO14 ⊢
                  exact Lib.hid ((hO14.out.sliceIs m (by have := hX.out.1; omega)).congr hMK.out)
              have hSH : Hid (Shares (.slice xad m xc) X xad m MK) := Lib.hid fun g' b off h0 h1 h2 h3 => by
                rcases hxform.out with h | ⟨g2, h⟩
                · rw [h] at h2; cases h2
                · rw [h] at h2
                  cases h2
                  exact ⟨rfl, by have := hX.out.1; omega, hMK.out⟩
              have hLI : Hid (∀ k, (Value.slice xad m xc).ownBlock = some k → k = xb ∨ w12.heap.size ≤ k) := Lib.hid fun k hk => by
                rcases hxform.out with h | ⟨g2, h⟩
                · rw [h] at hk; simp [Value.ownBlock] at hk
                · rw [h] at hk
                  simp only [Value.ownBlock, Option.some.injEq] at hk
                  exact .inl (by rw [← hk]; exact hxb.out.1 g2 h)
              have hm70 : m ≤ 268435456 := hna
              go_wp2_with fail
              go_loopw [17] (fun v wr => ∃ (q : Nat) (gad : Option Addr) (gc : Nat) (G : List Ky.Part), v = .slice gad q gc ∧ q ≤ m + 70 ∧ Hid (OwnP wr w.heap.size (.slice gad q gc) G) ∧ Hid (SliceIs wr wr.heap.size xad m MK) ∧ Hid (Shares (.slice gad q gc) G xad m MK) ∧ Hid (∀ k, (Value.slice gad q gc).ownBlock = some k → k = xb ∨ w12.heap.size ≤ k) ∧ Hid (Keep w12.heap.size xb w12 wr) ∧ Hid (Below w.heap.size w wr)) (fun v _ => m + 70 - slLen v)
              case atStart => exact ⟨m, xad, xc, X, rfl, by omega, hO14, hSX, hSH, hLI, hK14, hB14⟩
              case round =>
                obtain ⟨q, gad, gc, G, rfl, hq, hO15, hSX5, hSH5, hLI5, hK15, hB15⟩ := hrel
                clear hO14 hSX hSH hLI hK14 hB14
                have hGl := Lib.hid hO15.out.len
                by_cases hqm : q < m + 70
                · have hqm2 : (q : Int) < (m : Int) + 70 := by omega
                  go_wp2_with (at_builtin; refine wpList_appP_sh rfl _ _ rfl w.heap.size _ G grownP wr _ (by rfl) hO15.out _ (by rfl) (by rfl) (by rfl) (by have := hGl.out.1; omega) hB15.out.size xad m MK hSX5.out hSH5.out ?_; intro v9 w9 h9 g9 s9 t9 k9 l9)
                  obtain ⟨ad9, c9, hv9, _⟩ := h9.out.slc
                  have hgl9 : (G ++ [grownP]).length = q + 1 := by have := hGl.out.1; simp; omega
                  rw [hgl9] at hv9
                  subst hv9
                  have hB16 := Lib.hid (g9.out _ hB15.out)
                  have hK16 : Hid (Keep w12.heap.size xb w12 w9) := Lib.hid (hK15.out.trans ⟨k9.out.1, fun b h1 h2 => k9.out.2 b (Nat.lt_of_lt_of_le h1 hK15.out.1) fun e => by
                    rcases hLI5.out b e with h3 | h3
                    · exact h2 h3
                    · omega⟩)
                  have hLI6 : Hid (∀ k, (Value.slice ad9 (q + 1) c9).ownBlock = some k → k = xb ∨ w12.heap.size ≤ k) := Lib.hid fun k hk => by
                    rcases l9.out k hk with h3 | h3
                    · exact hLI5.out k h3
                    · exact .inr (Nat.le_trans hK15.out.1 h3)
                  clear g9 k9 l9
                  go_roundw
                  case rel => exact ⟨q + 1, ad9, c9, _, rfl, by omega, h9, s9, t9, hLI6, hK16, hB16⟩
                  case measure => simp [slLen]; omega
                · have hqm2 : ¬ (q : Int) < (m : Int) + 70 := by omega
                  clear hO15 hSH5 hLI5 hGl
                  go_wp2_with fail
                  go_loop [135] (fun i => ∃ t : Nat, t ≤ m ∧ i = .int .i64 t) (fun i => m - (intOf i).toNat)
                  case atStart => exact ⟨0, by omega, rfl⟩
                  case round =>
                    obtain ⟨t, ht, rfl⟩ := hrel
                    by_cases htm : t < m
                    · have htm2 : (t : Int) < (m : Int) := by omega
                      obtain ⟨b2, o2, e2, hl2, d0, d1, d2⟩ := hSX5.out.at_ t htm
                      subst e2
                      dsimp only [MK] at d0 d1 d2
                      clear hl2
                      go_wp2_with fail
                      go_round
                      case rel => exact ⟨t + 1, by omega, by go_num⟩
                      case measure => simp [intOf]; omega
                    · have htm2 : ¬ (t : Int) < (m : Int) := by omega
                      have hYI4 : Hid (In wr yad m (lof P)) := Lib.hid (Keep.inl HYI3.out hK15.out hxb.out.2.1)
                      clear hSX5
                      go_wp2_with fail
                      refine (split_own_at HC.out hkP.out x hxl.out hxs.out m hPl.out wr hB15.out).mono ?_
                      rintro e w15 ⟨zad, zc, rfl, _, hzi, _, hb⟩
                      have HB16 := Lib.hid (hB15.out.trans (hb.mono hB15.out.size))
                      have HYI5 := Lib.hid (hYI4.out.later hb)
                      have HZI := Lib.hid hzi
                      clear hb hzi
                      go_wp2_with fail
                      refine (same_at HYI5.out (hIA.out.later HB16.out) yc ca true hsm w15 (Below.refl _ _)).mono ?_
                      rintro e w16 ⟨rfl, hb⟩
                      have HB17 := Lib.hid (HB16.out.trans (hb.mono HB16.out.size))
                      have HZI2 := Lib.hid (HZI.out.later hb)
                      clear hb
                      go_wp2_with fail
                      refine (same_at HZI2.out (hIA.out.later HB17.out) zc ca true hsm w16 (Below.refl _ _)).mono ?_
                      rintro e w17 ⟨rfl, hb⟩
                      have HB18 := Lib.hid (HB17.out.trans (hb.mono HB17.out.size))
                      go_wp2_with fail
                      go_ret
                      exact ⟨rfl, HB18.out⟩
end Go.Proofs.YtfgkgehlokabgaaDoor
