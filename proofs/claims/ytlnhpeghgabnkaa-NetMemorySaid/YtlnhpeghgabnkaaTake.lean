/-
  Walks over layer 25: Double, Take, Lose.
-/
import Derived.Test.YtlnhpeghgabnkaaOps
import Derived.Laws.ResultCell
namespace Go.Proofs.Ytlnhpeghgabnkaa
open Go.RowKit
attribute [local go_sem ↓] Go.wp_at_zero Go.wp_at_succ

set_option maxRecDepth 100000 in
set_option maxHeartbeats 8000000 in
theorem double_yes (B bn : Nat) (v : Value) (l : List Pk) (p : Pk) (j : Nat) (hj : l[j]? = some p) (w : World) (h : NetAt w B bn v l) (hBw : B ≤ w.heap.size) (hlen : l.length ≤ 1759218604400) :
    Calls Try.prog 16 #[.pointer (some ⟨bn, 0, none⟩), .int .i64 (j : Int)] w fun e w' => e = .returned (.bool true) ∧ NetGo B bn v (l ++ [p]) w w' := by
  obtain ⟨ad, n, cap, rfl, hn, hc⟩ := h.form
  have hjl := (List.getElem?_eq_some_iff.1 hj).1
  have H := Lib.hid h
  have hlb : Hid (l.length + 1 ≤ 1800000000000) := Lib.hid (by omega)
  have hH := hide (has_any B bn _ l n hn (j : Int) w h)
  rw [show hasB n (j : Int) = true by simp [hasB]; omega] at hH
  have hcn := h.cell
  have hfn := h.free
  have hnl := h.lt
  obtain ⟨b, off, rfl, hblt, c0, c1, c2, c3, c4, c5, c6, c7, c8, c9, c10⟩ := rdP h.own.rd j p hj
  have hjn : (j : Int) < (n : Int) := by omega
  obtain ⟨W, hW⟩ : ∃ W, Hid ((w.alloc (.cells #[.bool p.b, .int .i64 p.m.r, .int .i64 p.m.k, .string p.m.t, .int .i64 p.m.a, .int .i64 p.m.m, .string p.m.c, .string p.m.p, .int .i64 p.a.r, .int .i64 p.a.k, .string p.a.t] 40)).drew = W) := ⟨_, Lib.hid rfl⟩
  have hAW : Hid (NetAt W B bn (.slice (some ⟨b, off, none⟩) n cap) l) := by rw [← hW.out]; exact Lib.hid (h.alloc _).drew
  have hU7 : Hid (Upd (fun k => k = bn ∨ (Value.slice (some ⟨b, off, none⟩) n cap).ownBlock = some k) w W) := by rw [← hW.out]; exact Lib.hid ((Upd.refl _ _).alloc _).drew
  have hb11 : Hid (Blk W w.heap.size 40 #[.bool p.b, .int .i64 p.m.r, .int .i64 p.m.k, .string p.m.t, .int .i64 p.m.a, .int .i64 p.m.m, .string p.m.c, .string p.m.p, .int .i64 p.a.r, .int .i64 p.a.k, .string p.a.t]) := by rw [← hW.out]; exact Lib.hid (Blk.new w _ _).drew
  have hBW : Hid (B ≤ W.heap.size) := Lib.hid (Nat.le_trans hBw hU7.out.size)
  obtain ⟨pb, ⟨mr, mk, mt, ma, mm, mc, mp⟩, ⟨ar, ak, at'⟩⟩ := p
  dsimp only at *
  clear h hBw hlen hj hjl hc hn hblt
  go_enter Try.func16, Try.ntmps16
  go_wp2_with (go_at_call 26; refine (unhide hH).mono ?_; rintro e w1 ⟨rfl, rfl⟩)
  go_region_law ((rw [hW.out]; refine EP.step_app rfl _ _ (by rfl) B _ l [⟨pb, ⟨mr, mk, mt, ma, mm, mc, mp⟩, ⟨ar, ak, at'⟩⟩] W (by rfl) hAW.out.own w.heap.size 1 (by rfl) (by rfl) _ hb11.out (by rfl) hlb.out hBW.out ?_; intro ad2 n2 c2' w2 h2; have hkn := NetAt.kept h2.out hAW.out.blk hAW.out (by decide); have hkc := hkn.at_ 0; have hkf := hkn.free 0))
  all_goals
    go_wp2_with fail
    go_ret
    exact ⟨rfl, NetGo.trans hU7.out (fun _ hk => .inl hk) (hAW.out.stored h2.out)⟩
theorem double_no (B bn : Nat) (v : Value) (l : List Pk) (n : Nat) (hn : l.length = n) (i : Int) (hi : hasB n i = false) (w : World) (h : NetAt w B bn v l) :
    Calls Try.prog 16 #[.pointer (some ⟨bn, 0, none⟩), .int .i64 i] w fun e w' => e = .returned (.bool false) ∧ w = w' := by
  have hH := hide (has_any B bn v l n hn i w h)
  rw [hi] at hH
  clear h hi hn
  go_enter Try.func16, Try.ntmps16
  go_wp2_with (go_at_call 26; refine (unhide hH).mono ?_; rintro e w1 ⟨rfl, rfl⟩)
  go_ret
  exact ⟨rfl, rfl⟩
theorem take_no (B bn : Nat) (v : Value) (l : List Pk) (n : Nat) (hn : l.length = n) (i : Int) (hi : hasB n i = false) (w : World) (h : NetAt w B bn v l) :
    Calls Try.prog 14 #[.pointer (some ⟨bn, 0, none⟩), .int .i64 i] w fun e w' => e = .returned (.tuple #[.agg Pk.zero.cs.toArray, .bool false]) ∧ Below w.heap.size w w' := by
  have hH := hide (fun o => has_any B bn v l n hn i (w.alloc o) (h.alloc o))
  rw [hi] at hH
  clear h hi hn
  go_enter Try.func14, Try.ntmps14
  go_wp2_with (go_at_call 26; refine (unhide hH _).mono ?_; rintro e w1 ⟨rfl, rfl⟩)
  refine bodyPost_ret (v := .tuple #[.agg Pk.zero.cs.toArray, .bool false]) (by rw [results_cell_tmp rfl]; simp only [Pk.zero, Msg.zero, Ans.zero, Pk.cs]; go_simp) rfl ⟨rfl, ?_⟩
  exact (Below.refl _ _).alloc (Nat.le_refl _) _
theorem delete_at (B b off n cap i r : Nat) (l : List Pk) (w : World) (h0 : off = 0) (h : EP.Own w B (.slice (some ⟨b, off, none⟩) n cap) l) (hn : n = i + 1 + r) :
    Calls Try.prog 27 #[.slice (some ⟨b, off, none⟩) n cap, .int .i64 (i : Int), .int .i64 ((i : Int) + 1)] w fun e w' => e = .returned (.slice (some ⟨b, off, none⟩) (i + r) cap) ∧ EP.Own w' B (.slice (some ⟨b, off, none⟩) (i + r) cap) (l.eraseIdx i) ∧ Upd (fun k => k = b) w w' := by
  subst h0
  exact delete_any B b n cap i r l w h hn
set_option maxRecDepth 100000 in
set_option maxHeartbeats 8000000 in
theorem take_yes (B bn : Nat) (v : Value) (l : List Pk) (p : Pk) (j : Nat) (hj : l[j]? = some p) (w : World) (h : NetAt w B bn v l) (hlen : l.length ≤ 1759218604400) :
    Calls Try.prog 14 #[.pointer (some ⟨bn, 0, none⟩), .int .i64 (j : Int)] w fun e w' => e = .returned (.tuple #[.agg p.cs.toArray, .bool true]) ∧ NetGo B bn v (l.eraseIdx j) w w' := by
  have hjl := (List.getElem?_eq_some_iff.1 hj).1
  obtain ⟨ad, n, cap, rfl, hn, hc⟩ := h.form
  have hH := hide (fun o => has_any B bn _ l n hn (j : Int) (w.alloc o) (h.alloc o))
  rw [show hasB n (j : Int) = true by simp [hasB]; omega] at hH
  have hcn := h.cell
  have hfn := h.free
  have hnl := h.lt
  obtain ⟨b, off, rfl, hblt, c0, c1, c2, c3, c4, c5, c6, c7, c8, c9, c10⟩ := rdP h.own.rd j p hj
  have hjn : (j : Int) < (n : Int) := by omega
  obtain ⟨r, hr⟩ : ∃ r, n = j + 1 + r := ⟨n - (j + 1), by omega⟩
  have h0 : off = 0 := by
    rcases h.own.form with ⟨e, _⟩ | ⟨g, cap', e, _⟩
    · simp at e
    · simp only [Value.slice.injEq, Option.some.injEq, Addr.mk.injEq] at e
      exact e.1.2.1
  obtain ⟨pb, ⟨mr, mk, mt, ma, mm, mc, mp⟩, ⟨ar, ak, at'⟩⟩ := p
  dsimp only at c0 c1 c2 c3 c4 c5 c6 c7 c8 c9 c10
  have HA := Lib.hid h
  have HR := Lib.hid hr
  have H0 := Lib.hid h0
  have hnb : n ≤ 1759218604400 := by omega
  obtain ⟨W, hW⟩ : ∃ W, Hid ((w.alloc (.cells #[.bool false, .int .i64 0, .int .i64 0, .string ⟨#[]⟩, .int .i64 0, .int .i64 0, .string ⟨#[]⟩, .string ⟨#[]⟩, .int .i64 0, .int .i64 0, .string ⟨#[]⟩] 40)).alloc (.cells #[.bool pb, .int .i64 mr, .int .i64 mk, .string mt, .int .i64 ma, .int .i64 mm, .string mc, .string mp, .int .i64 ar, .int .i64 ak, .string at'] 40) = W) := ⟨_, Lib.hid rfl⟩
  have hAW : Hid (NetAt W B bn (.slice (some ⟨b, off, none⟩) n cap) l) := by rw [← hW.out]; exact Lib.hid ((h.alloc _).alloc _)
  have hUW : Hid (Upd (fun k => k = bn ∨ (Value.slice (some ⟨b, off, none⟩) n cap).ownBlock = some k) w W) := by rw [← hW.out]; exact Lib.hid (((Upd.refl _ _).alloc _).alloc _)
  have hsW : Hid (W.heap.size = w.heap.size + 1 + 1) := by rw [← hW.out]; exact Lib.hid (by simp)
  have hbz : Hid (Blk W w.heap.size 40 #[.bool false, .int .i64 0, .int .i64 0, .string ⟨#[]⟩, .int .i64 0, .int .i64 0, .string ⟨#[]⟩, .string ⟨#[]⟩, .int .i64 0, .int .i64 0, .string ⟨#[]⟩]) := by rw [← hW.out]; exact Lib.hid ((Blk.new _ _ _).alloc _)
  have hbp : Hid (Blk W (w.heap.size + 1) 40 #[.bool pb, .int .i64 mr, .int .i64 mk, .string mt, .int .i64 ma, .int .i64 mm, .string mc, .string mp, .int .i64 ar, .int .i64 ak, .string at']) := by
    rw [← hW.out]
    have := Blk.new (w.alloc (.cells #[.bool false, .int .i64 0, .int .i64 0, .string ⟨#[]⟩, .int .i64 0, .int .i64 0, .string ⟨#[]⟩, .string ⟨#[]⟩, .int .i64 0, .int .i64 0, .string ⟨#[]⟩] 40)) #[.bool pb, .int .i64 mr, .int .i64 mk, .string mt, .int .i64 ma, .int .i64 mm, .string mc, .string mp, .int .i64 ar, .int .i64 ak, .string at'] 40
    rw [World.size_alloc] at this
    exact Lib.hid this
  have hbb : Hid (b < w.heap.size) := Lib.hid hblt
  clear h hlen hj hjl hc hn h0 hr
  go_enter Try.func14, Try.ntmps14
  go_wp2_with (go_at_call 26; refine (unhide hH _).mono ?_; rintro e w1 ⟨rfl, rfl⟩)
  rw [hW.out]
  clear hblt
  refine (delete_at B b off n cap j r l W H0.out hAW.out.own HR.out).mono ?_
  rintro e w3 ⟨rfl, ho, hu⟩
  have HO := Lib.hid ho
  have HU := Lib.hid hu
  have k1 := hu.blk hAW.out.blk (fun e => hAW.out.ne (by rw [e]; rfl))
  have k2 := hu.blk hbz.out (fun e => by have := hbb.out; omega)
  have k3 := hu.blk hbp.out (fun e => by have := hbb.out; omega)
  have e0 := k1.at_ 0
  have f0 := k1.free 0
  obtain ⟨d0, d1, d2, d3, d4, d5, d6, d7, d8, d9, d10⟩ := pk_cells k3
  obtain ⟨z0, z1, z2, z3, z4, z5, z6, z7, z8, z9, z10⟩ := pk_cells k2
  have y := fun j => k2.free j
  have hlt3 : w.heap.size + 1 < w3.heap.size := k3.lt
  clear ho hu k1 k2 k3
  go_wp2_with fail
  refine bodyPost_ret (v := .tuple #[.agg #[.bool pb, .int .i64 mr, .int .i64 mk, .string mt, .int .i64 ma, .int .i64 mm, .string mc, .string mp, .int .i64 ar, .int .i64 ak, .string at'], .bool true]) (by rw [results_cell_tmp rfl]; go_simp) rfl ⟨rfl, ?_⟩
  obtain ⟨p1, p2⟩ := hAW.out.put (HU.out.mono fun k _ e => by rw [e]; rfl) HO.out
  have u2 : Upd (fun k => k = w.heap.size) (w3.setCell ⟨bn, 0, none⟩ (.slice (some ⟨b, off, none⟩) (j + r) cap)) _ := upd_setCells _ w.heap.size 0 [.bool pb, .int .i64 mr, .int .i64 mk, .string mt, .int .i64 ma, .int .i64 mm, .string mc, .string mp, .int .i64 ar, .int .i64 ak, .string at']
  refine ⟨.slice (some ⟨b, off, none⟩) (j + r) cap, p1.upd u2 (fun e => by omega) (fun g hg e => ?_), Upd.trans (Upd.trans hUW.out p2 (fun _ _ h => h) (fun _ _ h => h)) u2 (fun _ _ h => h) (fun k hk e => by omega), fun k hk => .inl hk⟩
  simp only [Value.ownBlock, Option.some.injEq] at hg
  have := hbb.out
  omega
end Go.Proofs.Ytlnhpeghgabnkaa
