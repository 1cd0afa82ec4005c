/-
  Layer 11: the statement TableCuts: its walk.
-/
import Derived.Test.YtiffjjophmgdlaaGath
import Derived.Test.YtiffjjophmgdlaaLasts
import Derived.Test.YtiffjjophmgdlaaSame
import Derived.Deep.CutBlock
namespace Go.Proofs.Ytiffjjophmgdlaa
open Go.RowKit Tb

/-- Where the walk of TableCuts stands: the table, the lists that it holds. -/
structure Cu (w : World) (b : Nat) (l : List Rw) (W : World) (ls : List (Value × List Rw)) : Prop where
  tbl : TblAt W b (trOf l)
  lists : ∀ x ∈ ls, ∃ ad n cap, x.1 = .slice ad n cap ∧ RdS W ad n cap x.2
  below : Below w.heap.size w W
theorem Cu.next {w W W' : World} {b : Nat} {l : List Rw} {ls : List (Value × List Rw)} (h : Cu w b l W ls) (hb : Below W.heap.size W W') : Cu w b l W' ls :=
  ⟨h.tbl.below hb, fun x hx => by
    obtain ⟨ad, n, cap, e, hr⟩ := h.lists x hx
    exact ⟨ad, n, cap, e, hr.later hb⟩, h.below.trans (hb.mono h.below.size)⟩
theorem Cu.get {w W : World} {b : Nat} {l : List Rw} {ls : List (Value × List Rw)} (h : Cu w b l W ls) {ad : Option Addr} {n cap : Nat} {L : List Rw} (hm : (Value.slice ad n cap, L) ∈ ls) : RdS W ad n cap L := by
  obtain ⟨ad', n', cap', e, hr⟩ := h.lists _ hm
  simp only [Value.slice.injEq] at e
  obtain ⟨rfl, rfl, rfl⟩ := e
  exact hr
theorem Cu.add {w W : World} {b : Nat} {l : List Rw} {ls : List (Value × List Rw)} (h : Cu w b l W ls) {ad : Option Addr} {n cap : Nat} {L : List Rw} (hr : RdS W ad n cap L) : Cu w b l W ((.slice ad n cap, L) :: ls) :=
  ⟨h.tbl, fun x hx => by
    rcases List.mem_cons.1 hx with rfl | hx
    · exact ⟨_, _, _, rfl, hr⟩
    · exact h.lists x hx, h.below⟩
theorem gather_rds (f : FuncId) (lb : Array Value) (ys : List Rw) (N : Nat) (w : World) (hT : Tells w f lb ys N) (hN : N ≤ 20001) :
    Calls Try.prog 11 #[.func (.func f) #[] lb] w fun e w' => ∃ ad n cap, e = .returned (.tuple #[.slice ad n cap, .bool true]) ∧ RdS w' ad n cap ys ∧ Below w.heap.size w w' :=
  (gather_any f lb ys N w hT hN).mono fun _ _ ⟨ad, n, cap, e, ho, hb⟩ => ⟨ad, n, cap, e, RdS.of_own ho, hb⟩
theorem from_cu (lo : ByteArray) {w W : World} {b : Nat} {l : List Rw} {ls : List (Value × List Rw)} (h : Cu w b l W ls) :
    Calls Try.prog 12 #[.pointer (some ⟨b, 0, none⟩), .string lo] W fun e w' => ∃ f lb, e = .returned (.func (.func f) #[] lb) ∧ Tells w' f lb ((trOf l).ino.filter fun r => !lt r.1 lo) (trOf l).cnt ∧ Below W.heap.size W w' := by
  obtain ⟨p, h1, h2⟩ := h.tbl.at_
  exact (from_any b p _ lo W h1).mono fun _ _ ⟨x, y, e, _, _, hx, hy, hb⟩ => ⟨_, _, e, from_iter _ x y p (trOf l) lo hx hy (At_below hb h2) h.tbl.sorted, hb⟩
theorem range_cu (lo hi : ByteArray) {w W : World} {b : Nat} {l : List Rw} {ls : List (Value × List Rw)} (h : Cu w b l W ls) :
    Calls Try.prog 13 #[.pointer (some ⟨b, 0, none⟩), .string lo, .string hi] W fun e w' => ∃ f lb, e = .returned (.func (.func f) #[] lb) ∧ Tells w' f lb (mid (trOf l).ino lo hi) (trOf l).cnt ∧ Below W.heap.size W w' := by
  obtain ⟨p, h1, h2⟩ := h.tbl.at_
  exact (range_any b p _ lo hi W h1).mono fun _ _ ⟨x, y, z, e, hx, hy, hz, hb⟩ => ⟨_, _, e, range_iter _ x y z p (trOf l) lo hi hx hy hz (At_below hb h2) h.tbl.sorted, hb⟩
theorem back_cu (lo hi : ByteArray) {w W : World} {b : Nat} {l : List Rw} {ls : List (Value × List Rw)} (h : Cu w b l W ls) :
    Calls Try.prog 14 #[.pointer (some ⟨b, 0, none⟩), .string lo, .string hi] W fun e w' => ∃ f lb, e = .returned (.func (.func f) #[] lb) ∧ Tells w' f lb (mid (trOf l).ino lo hi).reverse (trOf l).cnt ∧ Below W.heap.size W w' := by
  obtain ⟨p, h1, h2⟩ := h.tbl.at_
  exact (back_any b p _ lo hi W h1).mono fun _ _ ⟨x, y, z, e, hx, hy, hz, hb⟩ => ⟨_, _, e, back_iter _ x y z p (trOf l) lo hi hx hy hz (At_below hb h2) h.tbl.sorted, hb⟩
theorem rows_cu {w W : World} {b : Nat} {l : List Rw} {ls : List (Value × List Rw)} (h : Cu w b l W ls) (hc : (trOf l).cnt ≤ 20001) :
    Calls Try.prog 9 #[.pointer (some ⟨b, 0, none⟩)] W fun e w' => ∃ ad n cap, e = .returned (.slice ad n cap) ∧ RdS w' ad n cap (trOf l).ino ∧ Below W.heap.size W w' :=
  (rows_any b (trOf l) W h.tbl hc).mono fun _ _ ⟨ad, n, cap, e, _, _, ho, hb⟩ => ⟨ad, n, cap, e, RdS.of_own ho, hb⟩
theorem RdS.same {w : World} {ad ad' : Option Addr} {n n' cap cap' : Nat} {l : List Rw} (h : RdS w ad n cap l) (k : RdS w ad' n' cap' l) (hn : n ≤ 1073741824) :
    Calls Try.prog 7 #[.slice ad n cap, .slice ad' n' cap'] w fun e w' => e = .returned (.bool true) ∧ Below w.heap.size w w' := by
  obtain rfl : n = n' := h.len.symm.trans k.len
  exact same_yes ad ad' n cap cap' l w h.rd k.rd h.len hn
/-- Append of a list, at an operation that is guarded and wanted. -/
theorem Elt.wpList_appG {P : Program} {α : Type} (E : Elt P α) {ops : Array Oper} {rest : List Oper} {o : Oper} {a : Act} {Q : Exit → Act → World → Prop} (s x : Operand)
    (ho : o.op = .call { callee := .builtin .append, args := #[s, x], argTypes := #[E.t, E.t] }) (hw : Region.wanted o (yielded ops a.tmps) = true)
    (B : Nat) (v : Value) (l m : List α) (W : World) (hs : a.eval s = v) (hown : E.Own W B v l) (ad : Option Addr) (n cap : Nat) (hx : a.eval x = .slice ad n cap) (hn : m.length = n) (hsl : E.Rd W W.heap.size ad m)
    (hnil : ad = none → cap = 0) (hlen : l.length + m.length ≤ 274877906944) (hB : B ≤ W.heap.size)
    (h : ∀ ad' n' c' w1, Hid (E.Apd W B v (l ++ m) (.slice ad' n' c') w1) → wpList P ops Q rest (a.put o.dst (.slice ad' n' c')) w1) : wpList P ops Q (o :: rest) a W := by
  obtain ⟨ad', n', c', w1, hr, h1⟩ := E.run_appL W B o.type v l m hown ad n cap hn hsl hnil hlen hB
  refine wpList_step fun K hK => ?_
  rw [if_pos hw]
  unfold Oper.wp execOp
  simp only [ho, resolve, invoke, builtin, Sem.run_bind, Sem.run_pure, Result.andThen_ok, List.map_toArray, List.map_cons, List.map_nil, hs, hx, hr]
  exact hK _ _ (h ad' n' c' w1 h1)
set_option maxRecDepth 100000 in
set_option maxHeartbeats 8000000 in
theorem cuts_law (ad : Option Addr) (n cap : Nat) (l : List Rw) (lo hi : ByteArray) (w : World) (h : RdS w ad n cap l) (hb : n ≤ 1152921504606846976) (hs : Sz l) :
    Calls Try.prog 4 #[.slice ad n cap, .string lo, .string hi] w fun e w' => e = .returned (.bool true) ∧ Below w.heap.size w w' := by
  have H := Lib.hid h
  have HS := Lib.hid hs
  clear h hs
  by_cases hn : n ≤ 20000
  · go_enter Try.func4, Try.ntmps4
    go_wp2_with fail
    refine (lives_any _).mono ?_
    rintro e w1 ⟨rfl, hb⟩
    have HB1 := Lib.hid hb
    have hr1 := Lib.hid (H.out.later hb)
    clear hb
    go_wp2_with fail
    refine (of_any ad n cap l w1 H.out.len hr1.out.rd (by omega) HS.out).mono ?_
    rintro e w2 ⟨b, rfl, _, hT, hb⟩
    have HC2 : Hid (Cu w b l w2 [(.slice ad n cap, l)]) := Lib.hid ⟨hT, fun x hx => by
      obtain rfl := List.mem_singleton.1 hx
      exact ⟨_, _, _, rfl, hr1.out.later hb⟩, HB1.out.trans (hb.mono HB1.out.size)⟩
    clear hT hb HB1 hr1
    have hcn : Hid ((trOf l).cnt ≤ 20001) := Lib.hid (by have := of_cnt l; have := H.out.len; omega)
    go_upto_if 42 with fail
    go_cut [1, 2] from 27 (fun x y wx => ∃ lo' hi' : ByteArray, x = .string lo' ∧ y = .string hi' ∧ Hid (lt hi' lo' = false) ∧ Hid (w2 = wx))
    case first =>
      go_wp2_with fail
      · rename_i h1
        have HL := Lib.hid (lt_asymm (show lt hi lo = true by rw [← toList_lt]; exact h1))
        go_meet
        case rel => exact ⟨hi, lo, rfl, rfl, HL, Lib.hid rfl⟩
      · rename_i h1
        have HL := Lib.hid (show lt hi lo = false by rw [← toList_lt]; exact h1)
        go_meet
        case rel => exact ⟨lo, hi, rfl, rfl, HL, Lib.hid rfl⟩
    case rest =>
    obtain ⟨a, z, rfl, rfl, haz, hw⟩ := hcut
    have hw' := hw.out
    subst hw'
    clear hw
    obtain ⟨L, hL⟩ : ∃ L, Hid ((trOf l).ino = L) := ⟨_, Lib.hid rfl⟩
    go_wp2_with fail
    refine (from_cu ⟨#[]⟩ HC2.out).mono ?_
    rintro e w3 ⟨f3, lb3, rfl, hT, hb⟩
    have HC3 := Lib.hid (HC2.out.next hb)
    have HT := Lib.hid hT
    clear hT hb HC2
    go_wp2_with fail
    refine (gather_rds f3 lb3 _ _ w3 HT.out hcn.out).mono ?_
    rintro e w4 ⟨ad3, n3, c3, rfl, hR, hb⟩
    have HC4 := Lib.hid ((HC3.out.next hb).add hR)
    clear hR hb HT HC3 
    go_wp2_with fail
    refine (from_cu a HC4.out).mono ?_
    rintro e w5 ⟨f5, lb5, rfl, hT, hb⟩
    have HC5 := Lib.hid (HC4.out.next hb)
    have HT := Lib.hid hT
    clear hT hb HC4
    go_wp2_with fail
    refine (gather_rds f5 lb5 _ _ w5 HT.out hcn.out).mono ?_
    rintro e w6 ⟨ad5, n5, c5, rfl, hR, hb⟩
    have HC6 := Lib.hid ((HC5.out.next hb).add hR)
    clear hR hb HT HC5 
    go_wp2_with fail
    refine (range_cu a z HC6.out).mono ?_
    rintro e w7 ⟨f7, lb7, rfl, hT, hb⟩
    have HC7 := Lib.hid (HC6.out.next hb)
    have HT := Lib.hid hT
    clear hT hb HC6
    go_wp2_with fail
    refine (gather_rds f7 lb7 _ _ w7 HT.out hcn.out).mono ?_
    rintro e w8 ⟨ad7, n7, c7, rfl, hR, hb⟩
    have HC8 := Lib.hid ((HC7.out.next hb).add hR)
    clear hR hb HT HC7 
    go_wp2_with fail
    refine (from_cu z HC8.out).mono ?_
    rintro e w9 ⟨f9, lb9, rfl, hT, hb⟩
    have HC9 := Lib.hid (HC8.out.next hb)
    have HT := Lib.hid hT
    clear hT hb HC8
    go_wp2_with fail
    refine (gather_rds f9 lb9 _ _ w9 HT.out hcn.out).mono ?_
    rintro e w10 ⟨ad9, n9, c9, rfl, hR, hb⟩
    have HC10 := Lib.hid ((HC9.out.next hb).add hR)
    clear hR hb HT HC9 
    go_wp2_with fail
    refine (back_cu a z HC10.out).mono ?_
    rintro e w11 ⟨f11, lb11, rfl, hT, hb⟩
    have HC11 := Lib.hid (HC10.out.next hb)
    have HT := Lib.hid hT
    clear hT hb HC10
    go_wp2_with fail
    refine (gather_rds f11 lb11 _ _ w11 HT.out hcn.out).mono ?_
    rintro e w12 ⟨ad11, n11, c11, rfl, hR, hb⟩
    have HC12 := Lib.hid ((HC11.out.next hb).add hR)
    clear hR hb HT HC11 
    go_wp2_with fail
    refine (range_cu ⟨#[]⟩ a HC12.out).mono ?_
    rintro e w13 ⟨f13, lb13, rfl, hT, hb⟩
    have HC13 := Lib.hid (HC12.out.next hb)
    have HT := Lib.hid hT
    clear hT hb HC12
    go_wp2_with fail
    refine (gather_rds f13 lb13 _ _ w13 HT.out hcn.out).mono ?_
    rintro e w14 ⟨ad13, n13, c13, rfl, hR, hb⟩
    have HC14 := Lib.hid ((HC13.out.next hb).add hR)
    clear hR hb HT HC13 
    go_wp2_with fail
    refine (rows_cu HC14.out hcn.out).mono ?_
    rintro e w15 ⟨ad15, n15, c15, rfl, hR, hb⟩
    have HC15 := Lib.hid ((HC14.out.next hb).add hR)
    clear hR hb HC14
    have hall : Hid ((trOf l).ino.filter (fun r => !lt r.1 ⟨#[]⟩) = L) := by rw [← hL.out]; exact Lib.hid (filter_all fun r _ => by rw [not_lt_nil]; rfl)
    have hso : Hid (Sorted L) := by rw [← hL.out]; exact Lib.hid HC15.out.tbl.sorted
    have hcL : Hid ((trOf l).cnt = L.length) := by rw [← hL.out]; exact Lib.hid (cnt_eq _)
    have hnL : Hid (L.length ≤ 20001) := by rw [← hcL.out]; exact hcn
    rw [hall.out, hL.out] at HC15
    obtain rfl : n3 = L.length := (HC15.out.get (ad := ad3) (cap := c3) (L := L) (by simp)).len.symm
    go_wp2_with fail
    refine (RdS.same (HC15.out.get (ad := ad3) (cap := c3) (L := L) (by simp)) (HC15.out.get (ad := ad15) (n := n15) (cap := c15) (L := L) (by simp)) (by have := hnL.out; omega)).mono ?_
    rintro e w16 ⟨rfl, hb⟩
    have HC16 := Lib.hid (HC15.out.next hb)
    clear hb HC15
    go_wp2_with fail
    refine (len_tbl b (trOf l) w16 HC16.out.tbl).mono ?_
    rintro e w' ⟨rfl, rfl⟩
    rw [hcL.out]
    go_upto_region 17 with fail
    have hmr : Hid (mid L a z ++ (L.filter fun r => !lt r.1 z) = L.filter fun r => !lt r.1 a) := Lib.hid (cut_from hso.out haz.out)
    have hla : Hid (mid L ⟨#[]⟩ a ++ (L.filter fun r => !lt r.1 a) = L) := Lib.hid (cut_all hso.out a)
    have HM7 : Hid (RdS w16 ad7 n7 c7 (mid L a z)) := Lib.hid (HC16.out.get (by simp))
    have HM11 : Hid (RdS w16 ad11 n11 c11 (mid L a z).reverse) := Lib.hid (HC16.out.get (by simp))
    obtain rfl : n7 = n11 := by have h1 := HM7.out.len; have h2 := HM11.out.len; simp at h2; omega
    have hst1 := Lib.hid (own_lit0 w16 w16.heap.size (Nat.le_refl _))
    have HB1 := Lib.hid ((Below.refl w16.heap.size w16).alloc (Nat.le_refl _) (.cells #[] 25))
    have HR7 := Lib.hid ((HC16.out.next HB1.out).get (ad := ad7) (n := n7) (cap := c7) (L := mid L a z) (by simp))
    have hl1 : Hid ((mid L a z).length ≤ 20001) := Lib.hid (by have := mid_le L a z; have := hnL.out; omega)
    have hl2 : Hid (∀ p : Rw → Bool, (L.filter p).length ≤ 20001) := Lib.hid (fun p => by have := List.length_filter_le p L; have := hnL.out; omega)
    go_wp2_with (first
      | (at_builtin; refine ER.wpList_appL rfl (.tmp 124) (.tmp 125) (by rfl) w16.heap.size _ [] _ _ (by rfl) hst1.out _ _ _ (by rfl) HR7.out.len HR7.out.rd HR7.out.nil (by have := hl1.out; simp; omega) HB1.out.size ?_; intro ad20 n20 c20 w20 h20; have HB20 : Hid (Below w16.heap.size w16 w20) := Lib.hid (h20.out.below hst1.out HB1.out HB1.out.size); have HR9 := Lib.hid ((HC16.out.next HB20.out).get (ad := ad9) (n := n9) (cap := c9) (L := L.filter fun r => !lt r.1 z) (by simp)))
      | (at_builtin; refine ER.wpList_appL rfl (.tmp 126) (.tmp 127) (by rfl) w16.heap.size _ _ _ _ (by rfl) h20.out.own _ _ _ (by rfl) HR9.out.len HR9.out.rd HR9.out.nil (by have h1 := hl1.out; have h2 := hl2.out (fun r => !lt r.1 z); simp at h2 ⊢; omega) HB20.out.size ?_; intro ad21 n21 c21 w21 h21; have HB21 : Hid (Below w16.heap.size w16 w21) := Lib.hid (h21.out.below h20.out.own HB20.out HB20.out.size)))
    have hO21 := h21.out.own
    rw [List.nil_append, hmr.out] at hO21
    have HC21 := Lib.hid (HC16.out.next HB21.out)
    have HR21 := Lib.hid (RdS.of_own hO21)
    clear h20 h21 hO21 hst1 HB1 HR7 HR9 HB20 HB21 HC16 HM7 HM11
    refine (RdS.same HR21.out (HC21.out.get (ad := ad5) (n := n5) (cap := c5) (L := L.filter fun r => !lt r.1 a) (by simp)) (by have h1 := HR21.out.len; have h2 := hl2.out (fun r => !lt r.1 a); omega)).mono ?_
    rintro e w22 ⟨rfl, hb⟩
    have HC22 := Lib.hid (HC21.out.next hb)
    clear hb HC21 HR21
    have hst2 := Lib.hid (own_lit0 w22 w22.heap.size (Nat.le_refl _))
    have HB2 := Lib.hid ((Below.refl w22.heap.size w22).alloc (Nat.le_refl _) (.cells #[] 25))
    have HR13 := Lib.hid ((HC22.out.next HB2.out).get (ad := ad13) (n := n13) (cap := c13) (L := mid L ⟨#[]⟩ a) (by simp))
    have hl3 : Hid ((mid L ⟨#[]⟩ a).length ≤ 20001) := Lib.hid (by have := mid_le L ⟨#[]⟩ a; have := hnL.out; omega)
    go_wp2_with (first
      | (at_builtin; refine ER.wpList_appG (.tmp 133) (.tmp 134) (by rfl) (by rfl) w22.heap.size _ [] _ _ (by rfl) hst2.out _ _ _ (by rfl) HR13.out.len HR13.out.rd HR13.out.nil (by have := hl3.out; simp; omega) HB2.out.size ?_; intro ad23 n23 c23 w23 h23; have HB23 : Hid (Below w22.heap.size w22 w23) := Lib.hid (h23.out.below hst2.out HB2.out HB2.out.size); have HR5 := Lib.hid ((HC22.out.next HB23.out).get (ad := ad5) (n := n5) (cap := c5) (L := L.filter fun r => !lt r.1 a) (by simp)))
      | (at_builtin; refine ER.wpList_appG (.tmp 135) (.tmp 136) (by rfl) (by rfl) w22.heap.size _ _ _ _ (by rfl) h23.out.own _ _ _ (by rfl) HR5.out.len HR5.out.rd HR5.out.nil (by have h1 := hl3.out; have h2 := hl2.out (fun r => !lt r.1 a); simp at h2 ⊢; omega) HB23.out.size ?_; intro ad24 n24 c24 w24 h24; have HB24 : Hid (Below w22.heap.size w22 w24) := Lib.hid (h24.out.below h23.out.own HB23.out HB23.out.size)))
    have hO24 := h24.out.own
    rw [List.nil_append, hla.out] at hO24
    have HC24 := Lib.hid (HC22.out.next HB24.out)
    have HR24 := Lib.hid (RdS.of_own hO24)
    clear h23 h24 hO24 hst2 HB2 HR13 HR5 HB23 HB24 HC22
    refine (RdS.same HR24.out (HC24.out.get (ad := ad3) (n := L.length) (cap := c3) (L := L) (by simp)) (by have h1 := HR24.out.len; have h2 := hnL.out; omega)).mono ?_
    rintro e w25 ⟨rfl, hb⟩
    have HC25 := Lib.hid (HC24.out.next hb)
    clear hb HC24 HR24
    go_upto_region 20 with fail
    have hle7 : n7 ≤ 20001 := by have h1 := (HC25.out.get (ad := ad7) (n := n7) (cap := c7) (L := mid L a z) (by simp)).len; have := hl1.out; omega
    go_loopw [151] (fun i wr => ∃ k : Nat, k ≤ n7 ∧ i = .int .i64 k ∧ Hid (Below w25.heap.size w25 wr)) (fun i _ => n7 - (intOf i).toNat)
    case atStart => exact ⟨0, Nat.zero_le _, rfl, Lib.hid (Below.refl _ _)⟩
    case round =>
      obtain ⟨k, hk, rfl, hB⟩ := hrel
      have HCr := Lib.hid (HC25.out.next hB.out)
      clear HC25
      have HM := Lib.hid (HCr.out.get (ad := ad7) (n := n7) (cap := c7) (L := mid L a z) (by simp))
      have HV := Lib.hid (HCr.out.get (ad := ad11) (n := n7) (cap := c11) (L := (mid L a z).reverse) (by simp))
      by_cases hkn : k < n7
      · have hkn2 : (k : Int) < (n7 : Int) := by omega
        obtain ⟨r, hr⟩ : ∃ r, Hid ((mid L a z)[k]? = some r) := ⟨(mid L a z)[k]'(by rw [HM.out.len]; exact hkn), Lib.hid (by simp)⟩
        obtain ⟨m, hm⟩ : ∃ m, Hid (m = n7 - 1) := ⟨_, Lib.hid rfl⟩
        obtain ⟨j, hj⟩ : ∃ j, Hid (j = n7 - 1 - k) := ⟨_, Lib.hid rfl⟩
        have hr2 : Hid ((mid L a z).reverse[j]? = some r) := Lib.hid (by
          have h1 := HM.out.len
          have h2 := hj.out
          rw [List.getElem?_reverse (by omega), h1, ← hr.out]
          congr 1
          omega)
        obtain ⟨hra, hrz⟩ := mid_mem (List.mem_of_getElem? hr.out)
        have f1 : Op.bytesLess r.1.toList a.toList = false := by rw [toList_lt]; exact hra
        have f2 : Op.bytesLess r.1.toList z.toList = true := by rw [toList_lt]; exact hrz
        obtain ⟨b1, o1, rfl, hl1', c0, c1⟩ := rdR HM.out.rd k r hr.out
        obtain ⟨b2, o2, rfl, hl2', d0, d1⟩ := rdR HV.out.rd j r hr2.out
        have hne := run_neq_row r
        have e1 : (n7 : Int) - 1 = (m : Int) := by have := hm.out; omega
        have e2 : (m : Int) - (k : Int) = (j : Int) := by have := hm.out; have := hj.out; omega
        have e3 : m ≤ 20001 := by have := hm.out; omega
        have e4 : j ≤ 20001 := by have := hj.out; omega
        have e5 : (j : Int) < (n7 : Int) := by have := hj.out; omega
        clear hl1' hl2' hra hrz
        go_wp2_with fail
        go_quiet (fail)
        go_wp2_with fail
        go_roundw
        case rel => exact ⟨k + 1, by omega, by go_num, Lib.hid (by first | exact hB.out | exact ⟨hB.out.os, hB.out.tape, hB.out.output, hB.out.size, hB.out.block⟩)⟩
        case measure => simp [intOf]; omega
      · have hkn2 : ¬ (k : Int) < (n7 : Int) := by omega
        obtain ⟨X, rfl⟩ : ∃ X, X = wr := ⟨_, rfl⟩
        clear HM HV hB
        have hsz : Hid (Sz L) := Lib.hid (fun r hr => HS.out r (of_mem l r (by rw [← (of_ino l).1, hL.out]; exact hr)))
        have hbt : Hid (bts L ≤ 5629781046902784000) := Lib.hid (Nat.le_trans (bts_le L 140737488355328 hsz.out) (Nat.le_trans (Nat.mul_le_mul_right _ hnL.out) (by decide)))
        obtain ⟨nL, hnl⟩ : ∃ nL, Hid (L.length = nL) := ⟨_, Lib.hid rfl⟩
        have hnLb := hnL.out
        rw [hnl.out] at HCr hnLb ⊢
        go_wp2_with fail
        go_loopw [22, 188] (fun q i wr => ∃ k : Nat, k ≤ nL ∧ i = .int .i64 k ∧ q = .int .i64 (bts (L.take k) : Int) ∧ Hid (Below X.heap.size X wr)) (fun _ i _ => nL - (intOf i).toNat)
        case atStart => exact ⟨0, Nat.zero_le _, rfl, rfl, Lib.hid (Below.refl _ _)⟩
        case round =>
          obtain ⟨k, hk, rfl, rfl, hB⟩ := hrel
          have HCr := Lib.hid (HCr.out.next hB.out)
          have HA := Lib.hid (HCr.out.get (ad := ad3) (n := nL) (cap := c3) (L := L) (by simp))
          by_cases hkn : k < nL
          · have hkn3 : (k : Int) < (nL : Int) := by omega
            obtain ⟨r, hr⟩ : ∃ r, Hid (L[k]? = some r) := ⟨L[k]'(by rw [hnl.out]; exact hkn), Lib.hid (by simp)⟩
            have hf : Hid ((trOf l).find r.1 = some r.2) := Lib.hid (find_of_mem r.1 r.2 _ HCr.out.tbl.sorted (by rw [hL.out]; exact List.mem_of_getElem? hr.out))
            have hnx := Lib.hid (bts_take hr.out)
            have hq0 := bts_take_le L (k + 1)
            rw [hnx.out] at hq0
            obtain ⟨q, hq⟩ : ∃ q, Hid (bts (L.take k) = q) := ⟨_, Lib.hid rfl⟩
            rw [hq.out] at hq0 hnx ⊢
            have hq1 : q + (r.1.size + r.2.size) ≤ 5629781046902784000 := Nat.le_trans hq0 hbt.out
            obtain ⟨b1, o1, rfl, hl1', c0, c1⟩ := rdR HA.out.rd k r hr.out
            clear hq0
            go_wp2_with fail
            obtain ⟨W1, hW1⟩ : ∃ W1, Hid (wr.alloc (.cells #[.string r.1, .string r.2] 25) = W1) := ⟨_, Lib.hid rfl⟩
            have hx : Hid (Blk W1 wr.heap.size 25 #[.string r.1, .string r.2]) := by rw [← hW1.out]; exact Lib.hid (Blk.new _ _ _)
            have hbn : Hid (Below wr.heap.size wr W1) := by rw [← hW1.out]; exact Lib.hid ((Below.refl _ _).alloc (Nat.le_refl _) _)
            rw [hW1.out]
            have HC1 := Lib.hid (HCr.out.next hbn.out)
            have HB1 := Lib.hid (hB.out.trans (hbn.out.mono hB.out.size))
            have HA1 := Lib.hid (HA.out.later hbn.out)
            have x0 : W1.cell? ⟨wr.heap.size, 0, none⟩ = some (.string r.1) := hx.out.at_ 0
            have x1 : W1.cell? ⟨wr.heap.size, 1, none⟩ = some (.string r.2) := hx.out.at_ 1
            clear c0 c1 hl1'
            refine (get_tbl b (trOf l) r.1 W1 HC1.out.tbl).mono ?_
            rintro e w' ⟨rfl, rfl⟩
            rw [hf.out]
            simp only [foundV, Option.getD_some, Option.isSome_some]
            by_cases hk0 : k = 0
            · have hd1 : decide ((0 : Int) < (k : Int)) = false := decide_eq_false (by omega)
              have hd2 : decide (0 < k) = false := decide_eq_false (by omega)
              clear hk0
              go_wp2_with fail
              go_quiet (fail)
              go_wp2_with fail
              go_roundw
              case rel => exact ⟨k + 1, by omega, by go_num, by rw [hnx.out]; push_cast; rfl, Lib.hid (by first | exact HB1.out | exact ⟨HB1.out.os, HB1.out.tape, HB1.out.output, HB1.out.size, HB1.out.block⟩)⟩
              case measure => simp [intOf]; omega
            · have hd1 : decide ((0 : Int) < (k : Int)) = true := decide_eq_true (by omega)
              have hd2 : decide (0 < k) = true := decide_eq_true (by omega)
              obtain ⟨k', hk'⟩ : ∃ k', Hid (k = k' + 1) := ⟨k - 1, Lib.hid (by omega)⟩
              have e1 : (k : Int) - 1 = (k' : Int) := by have := hk'.out; omega
              have e2 : (k' : Int) < (nL : Int) := by have := hk'.out; omega
              obtain ⟨r', hr'⟩ : ∃ r', Hid (L[k']? = some r') := ⟨L[k']'(by have := hk'.out; rw [hnl.out]; omega), Lib.hid (by simp)⟩
              obtain ⟨b2, o2, e3, hl2', g0, g1⟩ := rdR HA1.out.rd k' r' hr'.out
              simp only [Option.some.injEq, Addr.mk.injEq, and_true] at e3
              obtain ⟨rfl, rfl⟩ := e3
              have hlt : lt r'.1 r.1 = true := by
                obtain ⟨q1, q2⟩ := List.getElem?_eq_some_iff.1 hr'.out
                obtain ⟨q3, q4⟩ := List.getElem?_eq_some_iff.1 hr.out
                have := List.pairwise_iff_getElem.1 hso.out k' k q1 q3 (by have := hk'.out; omega)
                rw [q2, q4] at this
                exact this
              have f3 : Op.bytesLess r'.1.toList r.1.toList = true := by rw [toList_lt]; exact hlt
              clear hlt hk0 hl2' g1
              go_wp2_with fail
              go_quiet (fail)
              go_wp2_with fail
              go_roundw
              case rel => exact ⟨k + 1, by omega, by go_num, by rw [hnx.out]; push_cast; rfl, Lib.hid (by first | exact HB1.out | exact ⟨HB1.out.os, HB1.out.tape, HB1.out.output, HB1.out.size, HB1.out.block⟩)⟩
              case measure => simp [intOf]; omega
          · have hkn3 : ¬ (k : Int) < (nL : Int) := by omega
            obtain rfl : k = nL := by omega
            rw [List.take_of_length_le (by rw [hnl.out]; exact Nat.le_refl _)]
            obtain ⟨q, hq⟩ : ∃ q, Hid (bts L = q) := ⟨_, Lib.hid rfl⟩
            rw [hq.out]
            go_wp2_with fail
            refine (bytes_tbl b (trOf l) wr HCr.out.tbl).mono ?_
            rintro e w' ⟨rfl, rfl⟩
            rw [hL.out, hq.out]
            have HN := Lib.hid (HCr.out.get (ad := ad) (n := n) (cap := cap) (L := l) (by simp))
            go_wp2_with fail
            refine (lasts_any b ad n cap l wr HCr.out.tbl HN.out.len HN.out.rd (by omega) HS.out).mono ?_
            rintro e w40 ⟨rfl, hb⟩
            have HBf := Lib.hid (HCr.out.below.trans (hb.mono HCr.out.below.size))
            clear hb
            go_wp2_with fail
            go_ret
            exact ⟨rfl, HBf.out⟩
  · have hnn : (20000 : Int) < (n : Int) := by omega
    go_enter Try.func4, Try.ntmps4
    go_wp2_with fail
    refine (lives_any _).mono ?_
    rintro e w1 ⟨rfl, hb⟩
    have HB1 := Lib.hid hb
    clear hb
    go_wp2_with fail
    go_ret
    exact ⟨rfl, HB1.out⟩
end Go.Proofs.Ytiffjjophmgdlaa
