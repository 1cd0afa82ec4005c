/-
  Layer 25: the walk of NetMemory.
-/
import Derived.Test.YtlnhpeghgabnkaaMem
namespace Go.Proofs.Ytlnhpeghgabnkaa
open Go.RowKit
attribute [local go_sem ↓] Go.wp_at_zero Go.wp_at_succ

theorem own_mk1 (W : World) (o : Obj) (n B : Nat) (hn : n ≤ 1759218604390) (hB : B ≤ W.heap.size) : EM.Own ((W.alloc o).alloc (mk0 n)) B (.slice (some ⟨W.heap.size + 1, 0, none⟩) 0 (n + 1)) [] := by
  have := own_mk (W.alloc o) n B hn (by simp; omega)
  rw [World.size_alloc] at this
  exact this
theorem blk_new2 (W : World) (o : Obj) (c2 : Array Value) (t2 : TypeId) : Blk ((W.alloc o).alloc (.cells c2 t2)) (W.heap.size + 1) t2 c2 := by
  have := Blk.new (W.alloc o) c2 t2
  rw [World.size_alloc] at this
  exact this
theorem lies_ne {v v' : Value} {n m : Nat} (hv : ∀ g, v.ownBlock = some g → g ≠ m) (hl : ∀ k, v'.ownBlock = some k → v.ownBlock = some k ∨ n ≤ k) (hn : m < n) : ∀ g, v'.ownBlock = some g → g ≠ m := fun g hg e => by
  rcases hl g hg with h | h
  · exact hv g h e
  · omega
theorem own_free {w : World} {B b o n cap : Nat} {l : List Msg} (h0 : o = 0) (h : EM.Own w B (.slice (some ⟨b, o, none⟩) n cap) l) : ∀ j, w.frozen? ⟨b, j, none⟩ = false := fun j => by
  subst h0
  have hn := h.len_eq.1
  unfold Elt.Own at h
  rw [hn] at h
  exact World.ownsRow.frozenAt h j
theorem stored_at {w : World} {B b o n cap : Nat} {l : List Msg} (h0 : o = 0) (h : EM.Own w B (.slice (some ⟨b, o, none⟩) n cap) l) (i : Nat) (hi : i < l.length) (x : Msg) : EM.Own (w.setCells b (o + i * 7) (Msg.cs x)) B (.slice (some ⟨b, o, none⟩) n cap) (l.set i x) := by
  subst h0
  rw [Nat.zero_add]
  exact h.stored i hi x
set_option maxRecDepth 100000 in
set_option maxHeartbeats 8000000 in
theorem memory_law (ad : Option Addr) (n cap : Nat) (st : Int) (ms : List Msg) (w : World) (hn : ms.length = n) (hr : EM.Rd w w.heap.size ad ms) (hnil : ad = none → cap = 0) (hlen5 : n ≤ 1759218604390) :
    Calls Try.prog 6 #[.slice ad n cap, .int .i64 st] w fun e w' => e = .returned (.bool true) ∧ Below w.heap.size w w' := by
  have HR := Lib.hid hr
  have HN := Lib.hid hn
  have HNIL := Lib.hid hnil
  have hnb : n ≤ 1759218604390 := by omega
  have hmk := run_mk n hnb
  have hz : Hid (Below w.heap.size w w) := Lib.hid (Below.refl _ _)
  clear hr hn hnil
  go_enter Try.func6, Try.ntmps6
  go_wp2_with fail
  refine (fixed_any w).mono ?_
  rintro e w1 ⟨rfl, hb⟩
  have HB1 := Lib.hid hb
  clear hb
  go_wp2_with fail
  refine (new_any w1).mono ?_
  rintro e w9 ⟨rfl, rfl⟩
  obtain ⟨w2, hw2⟩ : ∃ W, Hid (w1.alloc (.cells #[.slice none 0 0] 57) = W) := ⟨_, Lib.hid rfl⟩
  have hA2 : Hid (NetAt w2 w.heap.size w1.heap.size (.slice none 0 0) []) := by rw [← hw2.out]; exact Lib.hid (net_new w1 w.heap.size HB1.out.size)
  have HB2 : Hid (Below w.heap.size w w2) := by rw [← hw2.out]; exact Lib.hid (HB1.out.alloc HB1.out.size _)
  rw [hw2.out]
  go_wp2_with fail
  obtain ⟨W0, hW0⟩ : ∃ W, Hid (w2.alloc (.cells #[.int .i64 0, .int .i64 0, .string ⟨#[115, 112, 97, 114, 101]⟩, .int .i64 0, .int .i64 0, .string ⟨#[]⟩, .string ⟨#[]⟩] 38) = W) := ⟨_, Lib.hid rfl⟩
  have hA3 : Hid (NetAt W0 w.heap.size w1.heap.size (.slice none 0 0) []) := by rw [← hW0.out]; exact Lib.hid (hA2.out.alloc _)
  have HB3 : Hid (Below w.heap.size w W0) := by rw [← hW0.out]; exact Lib.hid (HB2.out.alloc HB2.out.size _)
  have hM3 : Hid (Blk W0 w2.heap.size 38 #[.int .i64 0, .int .i64 0, .string ⟨#[115, 112, 97, 114, 101]⟩, .int .i64 0, .int .i64 0, .string ⟨#[]⟩, .string ⟨#[]⟩]) := by rw [← hW0.out]; exact Lib.hid (Blk.new _ _ _)
  rw [hW0.out]
  have hlm := hM3.out.lt
  obtain ⟨d0, d1, d2, d3, d4, d5, d6⟩ := msg_cells hM3.out
  obtain ⟨Wa, hWa⟩ : ∃ Wa, Hid ((W0.alloc (mk0 n)).drew = Wa) := ⟨_, Lib.hid rfl⟩
  have oa : Hid (EM.Own Wa w.heap.size (.slice (some ⟨W0.heap.size, 0, none⟩) 0 (n + 1)) []) := by rw [← hWa.out]; exact Lib.hid (own_mk W0 n w.heap.size hnb HB3.out.size).drew
  have ba : Hid (Below W0.heap.size W0 Wa) := by rw [← hWa.out]; exact Lib.hid ((Below.refl W0.heap.size W0).alloc (Nat.le_refl _) _).drew
  have qa : Hid (Blk Wa w2.heap.size 38 #[.int .i64 0, .int .i64 0, .string ⟨#[115, 112, 97, 114, 101]⟩, .int .i64 0, .int .i64 0, .string ⟨#[]⟩, .string ⟨#[]⟩]) := Lib.hid (hM3.out.below ba.out hM3.out.lt)
  have na : Hid (NetAt Wa w.heap.size w1.heap.size (.slice none 0 0) []) := Lib.hid (hA3.out.below ba.out)
  obtain ⟨Wb, hWb⟩ : ∃ Wb, Hid (((W0.alloc (mk0 n)).alloc (.cells #[.int .i64 0, .int .i64 0, .string ⟨#[115, 112, 97, 114, 101]⟩, .int .i64 0, .int .i64 0, .string ⟨#[]⟩, .string ⟨#[]⟩] 38)).drew = Wb) := ⟨_, Lib.hid rfl⟩
  have ob : Hid (EM.Own Wb w.heap.size (.slice (some ⟨W0.heap.size, 0, none⟩) 0 (n + 1)) []) := by rw [← hWb.out]; exact Lib.hid ((own_mk W0 n w.heap.size hnb HB3.out.size).alloc _).drew
  have bb : Hid (Below W0.heap.size W0 Wb) := by rw [← hWb.out]; exact Lib.hid (((Below.refl W0.heap.size W0).alloc (Nat.le_refl _) _).alloc (by simp) _).drew
  have eb : Hid (Blk Wb (W0.heap.size + 1) 38 #[.int .i64 0, .int .i64 0, .string ⟨#[115, 112, 97, 114, 101]⟩, .int .i64 0, .int .i64 0, .string ⟨#[]⟩, .string ⟨#[]⟩]) := by rw [← hWb.out]; exact Lib.hid (blk_new2 W0 (mk0 n) _ _).drew
  have qb : Hid (Blk Wb w2.heap.size 38 #[.int .i64 0, .int .i64 0, .string ⟨#[115, 112, 97, 114, 101]⟩, .int .i64 0, .int .i64 0, .string ⟨#[]⟩, .string ⟨#[]⟩]) := Lib.hid (hM3.out.below bb.out hM3.out.lt)
  have nb : Hid (NetAt Wb w.heap.size w1.heap.size (.slice none 0 0) []) := Lib.hid (hA3.out.below bb.out)
  obtain ⟨Wc, hWc⟩ : ∃ Wc, Hid (((W0.alloc (.cells #[.int .i64 0, .int .i64 0, .string ⟨#[115, 112, 97, 114, 101]⟩, .int .i64 0, .int .i64 0, .string ⟨#[]⟩, .string ⟨#[]⟩] 38)).alloc (mk0 n)).drew = Wc) := ⟨_, Lib.hid rfl⟩
  have oc : Hid (EM.Own Wc w.heap.size (.slice (some ⟨W0.heap.size + 1, 0, none⟩) 0 (n + 1)) []) := by rw [← hWc.out]; exact Lib.hid (own_mk1 W0 _ n w.heap.size hnb HB3.out.size).drew
  have bc : Hid (Below W0.heap.size W0 Wc) := by rw [← hWc.out]; exact Lib.hid (((Below.refl W0.heap.size W0).alloc (Nat.le_refl _) _).alloc (by simp) _).drew
  have ec : Hid (Blk Wc W0.heap.size 38 #[.int .i64 0, .int .i64 0, .string ⟨#[115, 112, 97, 114, 101]⟩, .int .i64 0, .int .i64 0, .string ⟨#[]⟩, .string ⟨#[]⟩]) := by rw [← hWc.out]; exact Lib.hid ((Blk.new _ _ _).alloc _).drew
  have qc : Hid (Blk Wc w2.heap.size 38 #[.int .i64 0, .int .i64 0, .string ⟨#[115, 112, 97, 114, 101]⟩, .int .i64 0, .int .i64 0, .string ⟨#[]⟩, .string ⟨#[]⟩]) := Lib.hid (hM3.out.below bc.out hM3.out.lt)
  have nc : Hid (NetAt Wc w.heap.size w1.heap.size (.slice none 0 0) []) := Lib.hid (hA3.out.below bc.out)
  have hlb : Hid (ms.length + 1 ≤ 1800000000000) := Lib.hid (by have := HN.out; omega)
  go_cut [7] (fun v wx => ∃ ad3 n3 c3, v = .slice ad3 n3 c3 ∧ Hid (EM.Own wx w.heap.size (.slice ad3 n3 c3) (ms ++ [spareM])) ∧ Hid (NetAt wx w.heap.size w1.heap.size (.slice none 0 0) []) ∧ Hid (Blk wx w2.heap.size 38 #[.int .i64 0, .int .i64 0, .string ⟨#[115, 112, 97, 114, 101]⟩, .int .i64 0, .int .i64 0, .string ⟨#[]⟩, .string ⟨#[]⟩]) ∧ Hid (∀ g, (Value.slice ad3 n3 c3).ownBlock = some g → g ≠ w2.heap.size) ∧ Hid (Below w.heap.size w wx))
  case first =>
    go_region_law (first | (rw [hWa.out]; refine EM.step_appL rfl _ _ (by rfl) w.heap.size _ [] ms Wa (by rfl) oa.out ad n cap (by rfl) HN.out (HR.out.later (HB3.out.trans (ba.out.mono HB3.out.size))) HNIL.out (by have := hlb.out; simp; omega) (Nat.le_trans HB3.out.size ba.out.size) ?_; intro ad2 n2 c2 w3 h2; rw [List.nil_append] at h2; have hw3 := Lib.hid (h2.out.below oa.out (HB3.out.trans (ba.out.mono HB3.out.size)) (Nat.le_trans HB3.out.size ba.out.size)); have hw3s : W0.heap.size < w3.heap.size := Nat.lt_of_lt_of_le (by rw [← hWa.out]; simp <;> omega) h2.out.upd.size; have hq := h2.out.upd.blk qa.out (fun e => by simp [Value.ownBlock] at e; omega); obtain ⟨g0, g1, g2, g3, g4, g5, g6⟩ := msg_cells hq; have hnt2 := na.out.upd h2.out.upd (oa.out.apart na.out.blk (by decide)) (fun g hg => by simp [Value.ownBlock] at hg); have hmn := Lib.hid (lies_ne (m := w2.heap.size) (fun g hg => by simp [Value.ownBlock] at hg; omega) h2.out.lies (Nat.lt_of_lt_of_le hlm ba.out.size))) | (rw [hWb.out]; refine EM.step_appL rfl _ _ (by rfl) w.heap.size _ [] ms Wb (by rfl) ob.out ad n cap (by rfl) HN.out (HR.out.later (HB3.out.trans (bb.out.mono HB3.out.size))) HNIL.out (by have := hlb.out; simp; omega) (Nat.le_trans HB3.out.size bb.out.size) ?_; intro ad2 n2 c2 w3 h2; rw [List.nil_append] at h2; have hw3 := Lib.hid (h2.out.below ob.out (HB3.out.trans (bb.out.mono HB3.out.size)) (Nat.le_trans HB3.out.size bb.out.size)); have hw3s : W0.heap.size < w3.heap.size := Nat.lt_of_lt_of_le (by rw [← hWb.out]; simp <;> omega) h2.out.upd.size; have hq := h2.out.upd.blk qb.out (fun e => by simp [Value.ownBlock] at e; omega); obtain ⟨g0, g1, g2, g3, g4, g5, g6⟩ := msg_cells hq; have hnt2 := nb.out.upd h2.out.upd (ob.out.apart nb.out.blk (by decide)) (fun g hg => by simp [Value.ownBlock] at hg); have he := h2.out.upd.blk eb.out (by simp [Value.ownBlock]); have hmn := Lib.hid (lies_ne (m := w2.heap.size) (fun g hg => by simp [Value.ownBlock] at hg; omega) h2.out.lies (Nat.lt_of_lt_of_le hlm bb.out.size))) | (rw [hWc.out]; refine EM.step_appL rfl _ _ (by rfl) w.heap.size _ [] ms Wc (by rfl) oc.out ad n cap (by rfl) HN.out (HR.out.later (HB3.out.trans (bc.out.mono HB3.out.size))) HNIL.out (by have := hlb.out; simp; omega) (Nat.le_trans HB3.out.size bc.out.size) ?_; intro ad2 n2 c2 w3 h2; rw [List.nil_append] at h2; have hw3 := Lib.hid (h2.out.below oc.out (HB3.out.trans (bc.out.mono HB3.out.size)) (Nat.le_trans HB3.out.size bc.out.size)); have hw3s : W0.heap.size < w3.heap.size := Nat.lt_of_lt_of_le (by rw [← hWc.out]; simp <;> omega) h2.out.upd.size; have hq := h2.out.upd.blk qc.out (fun e => by simp [Value.ownBlock] at e; omega); obtain ⟨g0, g1, g2, g3, g4, g5, g6⟩ := msg_cells hq; have hnt2 := nc.out.upd h2.out.upd (oc.out.apart nc.out.blk (by decide)) (fun g hg => by simp [Value.ownBlock] at hg); have he := h2.out.upd.blk ec.out (by simp [Value.ownBlock]); have hmn := Lib.hid (lies_ne (m := w2.heap.size) (fun g hg => by simp [Value.ownBlock] at hg; omega) h2.out.lies (Nat.lt_of_lt_of_le hlm bc.out.size))) | (refine EM.step_app rfl _ _ (by rfl) w.heap.size _ ms [spareM] (w3.alloc (.cells #[.int .i64 0, .int .i64 0, .string ⟨#[115, 112, 97, 114, 101]⟩, .int .i64 0, .int .i64 0, .string ⟨#[]⟩, .string ⟨#[]⟩] 38)) (by rfl) (h2.out.own.alloc _) w3.heap.size 1 (by rfl) (by rfl) _ (Blk.new _ _ _) (by rfl) hlb.out (by have := hw3.out.size; simp; omega) ?_; intro ad3 n3 c3 w4 h3; have hw4 := Lib.hid (h3.out.below (h2.out.own.alloc _) (hw3.out.alloc hw3.out.size _) (by have := hw3.out.size; simp; omega)); have hq4 := Lib.hid (h3.out.upd.blk (hq.alloc _) (fun e => hmn.out _ e rfl)); obtain ⟨i0, i1, i2, i3, i4, i5, i6⟩ := msg_cells hq4.out) | (refine EM.step_app rfl _ _ (by rfl) w.heap.size _ ms [spareM] w3 (by rfl) h2.out.own (W0.heap.size + 1) 1 (by rfl) (by rfl) _ he (by rfl) hlb.out hw3.out.size ?_; intro ad3 n3 c3 w4 h3; have hw4 := Lib.hid (h3.out.below h2.out.own hw3.out hw3.out.size); have hq4 := Lib.hid (h3.out.upd.blk hq (fun e => hmn.out _ e rfl)); obtain ⟨i0, i1, i2, i3, i4, i5, i6⟩ := msg_cells hq4.out) | (refine EM.step_app rfl _ _ (by rfl) w.heap.size _ ms [spareM] w3 (by rfl) h2.out.own W0.heap.size 1 (by rfl) (by rfl) _ he (by rfl) hlb.out hw3.out.size ?_; intro ad3 n3 c3 w4 h3; have hw4 := Lib.hid (h3.out.below h2.out.own hw3.out hw3.out.size); have hq4 := Lib.hid (h3.out.upd.blk hq (fun e => hmn.out _ e rfl)); obtain ⟨i0, i1, i2, i3, i4, i5, i6⟩ := msg_cells hq4.out))
    all_goals
      go_wp2_with fail
      go_meet
      refine ⟨ad3, n3, c3, rfl, Lib.hid h3.out.own, ?_, hq4, ?_, hw4⟩
      · first | exact Lib.hid ((hnt2.alloc _).upd h3.out.upd (h2.out.own.apart hnt2.blk (by decide)) (fun g hg => by simp [Value.ownBlock] at hg)) | exact Lib.hid (hnt2.upd h3.out.upd (h2.out.own.apart hnt2.blk (by decide)) (fun g hg => by simp [Value.ownBlock] at hg))
      · exact Lib.hid (lies_ne hmn.out h3.out.lies (by have := hw3s; have := hlm; first | omega | (simp; omega)))
  case rest =>
    obtain ⟨ad3, n3, c3, rfl, hO, hA, hM, hMN, HB⟩ := hcut
    clear d0 d1 d2 d3 d4 d5 d6 hlm oa ob oc ba bb bc qa qb qc na nb nc eb ec hWa hWb hWc hmk
    have hOl : Hid ((ms ++ [spareM]).length = n3 ∧ n3 ≤ c3) := Lib.hid hO.out.len_eq
    have hn3 : n3 = n + 1 := by have h1 := hOl.out.1; have h2 := HN.out; simp at h1; omega
    subst hn3
    have hc3 : n ≤ c3 := by have := hOl.out.2; omega
    have t1 := fun W => EM.slice_to ad3 (n + 1) c3 n (n : Int) rfl hc3 W
    change ∀ W, (Instr.slice 27 _ _ _ _).run Try.prog W = _ at t1
    obtain ⟨g3, hg3⟩ : ∃ g3, ad3 = some ⟨g3, 0, none⟩ := by
      rcases hO.out.form with ⟨h, h0⟩ | ⟨g, cp, h, _⟩
      · simp at h0
      · simp only [Value.slice.injEq] at h; exact ⟨g, h.1⟩
    have HG3 := Lib.hid hg3
    have hrm := Lib.hid (hO.out.rd.take n)
    have htk : Hid ((ms ++ [spareM]).take n = ms) := Lib.hid (by rw [List.take_append_of_le_length (by have := HN.out; omega), List.take_of_length_le (by have := HN.out; omega)])
    rw [htk.out] at hrm
    have hsp := Lib.hid (sep_msgs hA.out hO.out)
    clear hg3
    go_wp2_with fail
    refine (send_any w.heap.size w1.heap.size _ [] ad3 n c3 ms wc hA.out HB.out.size HN.out hrm.out hsp.out (by simp; omega)).mono ?_
    rintro e w5 ⟨rfl, hg⟩
    rw [List.nil_append] at hg
    obtain ⟨v5, hA5, hU5, hF5⟩ := hg
    have HA5 := Lib.hid hA5
    have HB5 : Hid (Below w.heap.size w w5) := Lib.hid (HB.out.trans (hU5.below w.heap.size HB.out.size (fun k hk => by rcases hk with rfl | hk; exact hA.out.base; simp [Value.ownBlock] at hk)))
    have HO5 : Hid (EM.Own w5 w.heap.size (.slice ad3 (n + 1) c3) (ms ++ [spareM])) := Lib.hid (hO.out.upd hU5 (fun g hg e => by rcases e with e | e; (subst e; exact hO.out.apart hA.out.blk (by decide) hg); simp [Value.ownBlock] at e))
    have HM5 : Hid (Blk w5 w2.heap.size 38 #[.int .i64 0, .int .i64 0, .string ⟨#[115, 112, 97, 114, 101]⟩, .int .i64 0, .int .i64 0, .string ⟨#[]⟩, .string ⟨#[]⟩]) := Lib.hid (hU5.blk hM.out (fun e => by rcases e with e | e; (have := (hM.out.type_eq (e ▸ hA.out.blk)).1; exact absurd this (by decide)); simp [Value.ownBlock] at e))
    clear hA5 hU5 hF5 t1
    go_wp2_with fail
    go_loopw [37] (fun i wr => ∃ k : Nat, k ≤ n ∧ i = .int .i64 k ∧ Hid (Below w5.heap.size w5 wr)) (fun i _ => n - (intOf i).toNat)
    case atStart => exact ⟨0, by omega, rfl, Lib.hid (Below.refl _ _)⟩
    case round =>
      obtain ⟨k, hk, rfl, hW⟩ := hrel
      by_cases hkn : k < n
      · have hkn2 : (k : Int) < (n : Int) := by omega
        have hkn3 : (k : Int) < (n : Int) + 1 := by omega
        obtain ⟨m, hm⟩ : ∃ m, Hid (ms[k]? = some m) := ⟨ms[k]'(by rw [HN.out]; exact hkn), Lib.hid (by simp)⟩
        obtain ⟨b1, o1, e1, hl1, c0, c1, c2, c4, c5, c6, c7⟩ := rdM (HR.out.later (HB5.out.trans (hW.out.mono HB5.out.size))) k m hm.out
        obtain ⟨b2, o2, e2, hl2, x0, x1, x2, x4, x5, x6, x7⟩ := rdM (HO5.out.below hW.out (Nat.le_refl _)).rd k m (by rw [List.getElem?_append_left (by rw [HN.out]; exact hkn)]; exact hm.out)
        have hbr : Hid (Below w5.heap.size w5 wr) := hW
        obtain ⟨r', k', t', a', m', q', p'⟩ := m
        dsimp only at c0 c1 c2 c4 c5 c6 c7 x0 x1 x2 x4 x5 x6 x7
        clear hl1 hl2
        subst e1 e2
        go_wp2_with fail
        go_quiet (fail)
        go_wp2_with fail
        go_roundw
        case rel => exact ⟨k + 1, by omega, by go_num, Lib.hid (by first | exact hW.out | exact ⟨hW.out.os, hW.out.tape, hW.out.output, hW.out.size, hW.out.block⟩)⟩
        case measure => simp [intOf]; omega
      · have hkn2 : ¬ (k : Int) < (n : Int) := by omega
        obtain rfl : k = n := by omega
        have HW1 : Hid (Below w.heap.size w wr) := Lib.hid (HB5.out.trans (hW.out.mono HB5.out.size))
        have HN1 : Hid (NetAt wr w.heap.size w1.heap.size v5 (ms.map pkM)) := Lib.hid (HA5.out.below hW.out)
        have HO1 : Hid (EM.Own wr w.heap.size (.slice ad3 (k + 1) c3) (ms ++ [spareM])) := Lib.hid (HO5.out.below hW.out (Nat.le_refl _))
        have HM1 := Lib.hid (HM5.out.below hW.out HM5.out.lt)
        obtain ⟨b2, o2, e2, hl2, x0, x1, x2, x4, x5, x6, x7⟩ := rdM HO1.out.rd k spareM (by rw [List.getElem?_append_right (by rw [HN.out]; omega), HN.out]; simp)
        obtain ⟨m0, m1, m2, m3, m4, m5, m6⟩ := msg_cells HM1.out
        have hkk : (k : Int) < (k : Int) + 1 := by omega
        dsimp only [spareM] at x0 x1 x2 x4 x5 x6 x7
        clear hl2 hW
        subst e2
        go_wp2_with fail
        go_quiet (fail)
        clear x0 x1 x2 x4 x5 x6 x7 m0 m1 m2 m3 m4 m5 m6
        obtain ⟨w6, hw6⟩ : ∃ W, Hid (wr.drewN nq = W) := ⟨_, Lib.hid rfl⟩
        have hbd : Hid (Below wr.heap.size wr w6) := by rw [← hw6.out]; exact Lib.hid ⟨rfl, rfl, rfl, Nat.le_refl _, fun _ _ => rfl⟩
        have HW6 := Lib.hid (HW1.out.trans (hbd.out.mono HW1.out.size))
        have HN6 := Lib.hid (HN1.out.below hbd.out)
        have HO6 := Lib.hid (HO1.out.below hbd.out (Nat.le_refl _))
        rw [hw6.out]
        clear hbd HM1 HW1 HN1 HO1 HM5
        have hog : Hid (o2 = 0) := by
          rcases HO6.out.form with ⟨h, _⟩ | ⟨g, cp, h, _⟩
          · simp at h
          · simp only [Value.slice.injEq, Option.some.injEq, Addr.mk.injEq] at h; exact Lib.hid h.1.2.1
        go_wp2_with fail
        go_loopw [59] (fun i wr => ∃ (j : Nat) (L' : List Msg), j ≤ k + 1 ∧ i = .int .i64 j ∧ Hid (L'.length = k + 1) ∧ Hid (EM.Own wr w.heap.size (.slice (some ⟨b2, o2, none⟩) (k + 1) c3) L') ∧ Hid (NetAt wr w.heap.size w1.heap.size v5 (ms.map pkM)) ∧ Hid (Below w.heap.size w wr)) (fun i _ => k + 1 - (intOf i).toNat)
        case atStart => exact ⟨0, _, by omega, rfl, Lib.hid (by rw [List.length_append, HN.out]; rfl), HO6, HN6, HW6⟩
        case round =>
          obtain ⟨j, L', hj, rfl, hLl, hO7, hN7, hB7⟩ := hrel
          clear HW6 HN6 HO6
          by_cases hjn : j < k + 1
          · have hjn2 : (j : Int) < (k : Int) + 1 := by omega
            obtain ⟨m, hm⟩ : ∃ m, Hid (L'[j]? = some m) := ⟨L'[j]'(by rw [hLl.out]; exact hjn), Lib.hid (by simp)⟩
            obtain ⟨b3, o3, e3, hl3, y0, y1, y2, y3, y4, y5, y6⟩ := rdM hO7.out.rd j m hm.out
            simp only [Option.some.injEq, Addr.mk.injEq, and_true] at e3
            obtain ⟨rfl, rfl⟩ := e3
            have hfr := own_free hog.out hO7.out
            obtain ⟨r', k', t', a', m', q', p'⟩ := m
            dsimp only at y0 y1 y2 y3 y4 y5 y6
            clear hl3
            go_wp2_with fail
            have hst := Lib.hid (stored_at hog.out hO7.out j (by rw [hLl.out]; exact hjn) ⟨0, 0, ⟨#[115, 112, 111, 105, 108, 116]⟩, 0, 0, ⟨#[]⟩, ⟨#[]⟩⟩)
            have hup := Lib.hid (upd_setCells wr b2 (o2 + j * 7) (Msg.cs ⟨0, 0, ⟨#[115, 112, 111, 105, 108, 116]⟩, 0, 0, ⟨#[]⟩, ⟨#[]⟩⟩))
            go_roundw
            case rel =>
              refine ⟨j + 1, _, by omega, by go_num, Lib.hid (by rw [List.length_set]; exact hLl.out), hst, ?_, ?_⟩
              · exact Lib.hid (hN7.out.upd hup.out (fun e => (sep_msgs hN7.out hO7.out b2 o2 rfl).1 e.symm) (fun g hg e => (sep_msgs hN7.out hO7.out b2 o2 rfl).2 (e ▸ hg)))
              · exact Lib.hid (hB7.out.trans (hup.out.below w.heap.size hB7.out.size (fun g e => by rw [e]; exact (hO7.out.lt b2 rfl).1)))
            case measure => simp [intOf]; omega
          · have hjn2 : ¬ (j : Int) < (k : Int) + 1 := by omega
            clear hO7 hLl
            go_wp2_with fail
            go_loopw [10, 69] (fun v i wr => ∃ (j : Nat) (ad' : Option Addr) (n' c' : Nat), j ≤ k ∧ i = .int .i64 j ∧ v = .slice ad' n' c' ∧ Hid (EP.Own wr w.heap.size (.slice ad' n' c') ((ms.take j).map pkM)) ∧ Hid (Apart v5 (.slice ad' n' c')) ∧ Hid (NetAt wr w.heap.size w1.heap.size v5 (ms.map pkM)) ∧ Hid (Below w.heap.size w wr)) (fun _ i _ => k - (intOf i).toNat)
            case atStart => exact ⟨0, _, _, _, by omega, rfl, rfl, Lib.hid (Elt.Own.nil _ _ _), Lib.hid (Apart.nil _ _ _), hN7, hB7⟩
            case round =>
              obtain ⟨j, ad', n', c', hj, rfl, rfl, hO8, hP8, hN8, hB8⟩ := hrel
              clear hN7 hB7
              by_cases hjk : j < k
              · have hjk2 : (j : Int) < (k : Int) := by omega
                obtain ⟨m, hm⟩ : ∃ m, Hid (ms[j]? = some m) := ⟨ms[j]'(by rw [HN.out]; exact hjk), Lib.hid (by simp)⟩
                obtain ⟨b3, o3, e3, hl3, y0, y1, y2, y3, y4, y5, y6⟩ := rdM (HR.out.below hB8.out (Nat.le_refl _)) j m hm.out
                have hnx := Lib.hid (take_succ_map pkM ms j m hm.out)
                have hl9 := Nat.lt_of_lt_of_le hl3 hB8.out.size
                have hlb2 : Hid (((ms.take j).map pkM).length + 1 ≤ 1800000000000) := Lib.hid (by rw [List.length_map, List.length_take]; omega)
                obtain ⟨r', k', t', a', m', q', p'⟩ := m
                dsimp only at y0 y1 y2 y3 y4 y5 y6
                subst e3
                have hO9 := Lib.hid (hO8.out.alloc (.cells #[.int .i64 r', .int .i64 k', .string t', .int .i64 a', .int .i64 m', .string q', .string p'] 38))
                have hN9 := Lib.hid (hN8.out.alloc (.cells #[.int .i64 r', .int .i64 k', .string t', .int .i64 a', .int .i64 m', .string q', .string p'] 38))
                have hB9 := Lib.hid (hB8.out.alloc hB8.out.size (.cells #[.int .i64 r', .int .i64 k', .string t', .int .i64 a', .int .i64 m', .string q', .string p'] 38))
                go_wp2_with (at_builtin; refine EP.wpList_app rfl _ _ (by rfl) w.heap.size _ _ [pkM ⟨r', k', t', a', m', q', p'⟩] (wr.alloc (.cells #[.int .i64 r', .int .i64 k', .string t', .int .i64 a', .int .i64 m', .string q', .string p'] 38)) _ (by rfl) hO9.out _ 1 (by rfl) (by rfl) (by simp) (by rfl) hlb2.out hB9.out.size ?_; intro ad9 n9 c9 w9 h9)
                have HB9 := Lib.hid (h9.out.below hO9.out hB9.out hB9.out.size)
                have HN9 := Lib.hid (hN9.out.upd h9.out.upd (hO9.out.apart hN9.out.blk (by decide)) (fun g hg e => hP8.out g hg e))
                have HP9 := Lib.hid (hP8.out.lies h9.out.lies fun g hg => (hN9.out.own.lt g hg).2)
                go_roundw
                case rel => exact ⟨j + 1, _, _, _, by omega, by go_num, rfl, by rw [hnx.out]; exact Lib.hid h9.out.own, HP9, HN9, HB9⟩
                case measure => simp [intOf]; omega
              · have hjk2 : ¬ (j : Int) < (k : Int) := by omega
                obtain rfl : j = k := by omega
                rw [List.take_of_length_le (by rw [HN.out]; exact Nat.le_refl _)] at hO8
                have hpl : Hid ((ms.map pkM).length = j) := Lib.hid (by rw [List.length_map, HN.out])
                clear HR HN HNIL
                obtain ⟨L, hL⟩ : ∃ L, Hid (ms.map pkM = L) := ⟨_, Lib.hid rfl⟩
                rw [hL.out] at hO8 hN8 hpl
                have hnf : ∀ (f : Fn) (a b : Array Value) (W : World), (binOp .eql 51 (.func f a b) .nilFunc).run Try.prog W = .ok (.bool false) W := fun f a b W => by kernel_rfl
                have hjj : ((j : Int) == (j : Int)) = true := by simp
                have hn' : Hid (L.length = n') := Lib.hid hO8.out.len_eq.1
                clear hL
                go_wp2_with fail
                refine (all_full w.heap.size w1.heap.size v5 L wr hN8.out (by rw [hpl.out]; exact Nat.le_trans hnb (by decide))).mono ?_
                rintro e w10 ⟨x, ita, itn, itc, rfl, _, hbx, hox, hb⟩
                have hT1 := Lib.hid (Tri.it hN8.out hO8.out hP8.out hB8.out.size hb hbx hox)
                have hB10 := Lib.hid (hB8.out.trans (hb.mono hB8.out.size))
                clear hbx hox hb hN8 hO8 hP8 hB8
                go_wp2_with fail
                refine (double0 w.heap.size w1.heap.size v5 L w10 hT1.out.tri.net hB10.out.size (by rw [hpl.out]; exact Nat.le_trans hnb (by decide))).mono ?_
                rintro e w11 ⟨b1, l1, rfl, hl1, hg⟩
                obtain ⟨v6, hT2, hB11⟩ := hT1.out.go hg hB10.out (Nat.le_refl _)
                have hT2 := Lib.hid hT2
                have hB11 := Lib.hid hB11
                have hl1 := Lib.hid hl1
                clear hg
                go_wp2_with fail
                refine (lose0 w.heap.size w1.heap.size v6 l1 w11 hT2.out.tri.net (by have h1 := hl1.out; have h2 := hpl.out; rw [h2] at h1; split at h1 <;> omega)).mono ?_
                rintro e w12 ⟨b2', l2, rfl, hl2, hg⟩
                obtain ⟨v7, hT3, hB12⟩ := hT2.out.go hg hB11.out (Nat.le_refl _)
                have hT3 := Lib.hid hT3
                have hB12 := Lib.hid hB12
                have hl2 : Hid (l2.length = j) := Lib.hid (by have h1 := hl1.out; have h2 := hpl.out; rw [h2] at h1; split at h1 <;> omega)
                clear hg hl1
                go_wp2_with fail
                refine (reply_any w.heap.size w1.heap.size v7 l2 ⟨0, 0, ⟨#[108, 97, 116, 101]⟩⟩ w12 hT3.out.tri.net hB12.out.size (by rw [hl2.out]; exact Nat.le_trans hnb (by decide))).mono ?_
                rintro e w13 ⟨rfl, hg⟩
                obtain ⟨v8, hT4, hB13⟩ := hT3.out.go hg hB12.out (Nat.le_refl _)
                have hT4 := Lib.hid hT4
                have hB13 := Lib.hid hB13
                clear hg
                go_wp2_with fail
                refine (walked_any x ad' n' c' st L (by rw [hpl.out]; exact Nat.le_trans hnb (by decide)) hn'.out w13 hT4.out.it hT4.out.tri.i.rd).mono ?_
                rintro e w14 ⟨rfl, hb⟩
                have hT5 := Lib.hid (hT4.out.below hb)
                have hB14 := Lib.hid (hB13.out.trans (hb.mono hB13.out.size))
                clear hb
                go_wp2_with fail
                refine (walked_any x ad' n' c' (-1) L (by rw [hpl.out]; exact Nat.le_trans hnb (by decide)) hn'.out w14 hT5.out.it hT5.out.tri.i.rd).mono ?_
                rintro e w15 ⟨rfl, hb⟩
                have hT6 := Lib.hid (hT5.out.below hb)
                have hB15 := Lib.hid (hB14.out.trans (hb.mono hB14.out.size))
                clear hb
                go_wp2_with fail
                refine (take0 w.heap.size w1.heap.size v8 _ w15 hT6.out.tri.net (by rw [List.length_append, hl2.out]; simp; omega)).mono ?_
                rintro e w16 ⟨tv, l4, rfl, hl4, hg⟩
                obtain ⟨v9, hT7, hB16⟩ := hT6.out.go hg hB15.out (Nat.le_refl _)
                have hT7 := Lib.hid hT7
                have hB16 := Lib.hid hB16
                have hl4 : Hid (l4.length = j) := Lib.hid (by rw [List.length_append, hl2.out] at hl4; simpa using hl4)
                clear hg
                go_wp2_with fail
                refine (walked_any x ad' n' c' (-1) L (by rw [hpl.out]; exact Nat.le_trans hnb (by decide)) hn'.out w16 hT7.out.it hT7.out.tri.i.rd).mono ?_
                rintro e w17 ⟨rfl, hb⟩
                have hT8 := Lib.hid (hT7.out.below hb)
                have hB17 := Lib.hid (hB16.out.trans (hb.mono hB16.out.size))
                clear hb
                go_wp2_with fail
                refine (len_any w.heap.size w1.heap.size v9 l4 w17 hT8.out.tri.net).mono ?_
                rintro e w18 ⟨rfl, rfl⟩
                rw [hl4.out]
                obtain rfl : n' = j := by have := hn'.out; have := hpl.out; omega
                go_wp2_with fail
                go_ret
                exact ⟨rfl, hB17.out⟩
end Go.Proofs.Ytlnhpeghgabnkaa
