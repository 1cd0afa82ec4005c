/-
  Layer 25: step.
-/
import Derived.Test.YtlnhpeghgabnkaaStepGo
import Derived.Test.YtlnhpeghgabnkaaRef2
import Derived.Test.YtlnhpeghgabnkaaRef3
namespace Go.Proofs.Ytlnhpeghgabnkaa
open Go.RowKit
attribute [local go_sem ↓] Go.wp_at_zero Go.wp_at_succ

theorem own_rds {w : World} {B n cap : Nat} {ad : Option Addr} {l : List Pk} (h : EP.Own w B (.slice ad n cap) l) : RdS w ad n cap l :=
  ⟨h.len_eq.1, h.rd, (fun e => by
    rcases h.form with ⟨h1, _⟩ | ⟨g, c, h1, _⟩
    · simp only [Value.slice.injEq] at h1
      exact h1.2.2
    · simp only [Value.slice.injEq] at h1
      rw [e] at h1
      exact absurd h1.1 (by simp)), h.len_eq.2⟩
/-- The reference's list, behind a call on the Net. -/
theorem rds_go {B bn n cap : Nat} {v : Value} {l l2 lh : List Pk} {ad : Option Addr} {w w1 w2 : World} (h : NetAt w B bn v l) (hh : EP.Own w B (.slice ad n cap) lh) (ha : Apart v (.slice ad n cap)) (hb : Below w.heap.size w w1) (hg : NetGo B bn v l2 w1 w2) : RdS w2 ad n cap lh := by
  obtain ⟨_, _, h2, _⟩ := hg
  refine own_rds ((hh.below hb (Nat.le_refl _)).upd h2 fun g hg' e => ?_)
  rcases e with rfl | e
  · exact hh.apart h.blk (by decide) hg'
  · exact ha g e hg'
/-- A block laid since the call began lies on behind a call on the Net. -/
theorem blk_go {B bn : Nat} {v : Value} {l l2 : List Pk} {w w1 w2 : World} {g : Nat} {t : TypeId} {cs : Array Value} (h : NetAt w B bn v l) (_hb : Below w.heap.size w w1) (hg : NetGo B bn v l2 w1 w2) (hx : Blk w1 g t cs) (hgw : w.heap.size ≤ g) : Blk w2 g t cs := by
  obtain ⟨_, _, h2, _⟩ := hg
  refine h2.blk hx fun e => ?_
  rcases e with e | e
  · have := h.lt; omega
  · have := (h.own.lt g e).2; omega
theorem below_alloc1 (w : World) (o : Obj) : Below w.heap.size w (w.alloc o) := (Below.refl _ _).alloc (Nat.le_refl _) o
theorem ownM_free {w : World} {B b o n cap : Nat} {l : List Msg} (h0 : o = 0) (h : EM.Own w B (.slice (some ⟨b, o, none⟩) n cap) l) : ∀ j, w.frozen? ⟨b, j, none⟩ = false := fun j => by
  subst h0
  obtain ⟨cur, hc⟩ := h.blk (g := b) rfl
  exact hc.free j
theorem ownM_stored {w : World} {B b o n cap : Nat} {l : List Msg} (h0 : o = 0) (h : EM.Own w B (.slice (some ⟨b, o, none⟩) n cap) l) (i : Nat) (hi : i < l.length) (x : Msg) : EM.Own (w.setCells b (o + i * 7) (Msg.cs x)) B (.slice (some ⟨b, o, none⟩) n cap) (l.set i x) := by
  subst h0
  rw [Nat.zero_add]
  exact h.stored i hi x
theorem ownM_zero {w : World} {B b o n cap : Nat} {l : List Msg} (h : EM.Own w B (.slice (some ⟨b, o, none⟩) n cap) l) : Hid (o = 0) := by
  rcases h.form with ⟨h, _⟩ | ⟨g, cp, h, _⟩
  · simp at h
  · simp only [Value.slice.injEq, Option.some.injEq, Addr.mk.injEq] at h
    exact Lib.hid h.1.2.1
theorem below_drewM (w : World) (k : Nat) : Below w.heap.size w (w.drewN k) := ⟨rfl, rfl, rfl, Nat.le_refl _, fun _ _ => rfl⟩
set_option maxRecDepth 100000 in
set_option maxHeartbeats 16000000 in
theorem step_any (w0 : World) (B bn n cap : Nat) (v : Value) (l : List Pk) (ad : Option Addr) (o : Opv) (w : World) (hB : w0.heap.size = B) (hb0 : Below B w0 w) (h : NetAt w B bn v l) (hh : EP.Own w B (.slice ad n cap) l) (ha : Apart v (.slice ad n cap)) (ho : OpOk w0 o) (hlen : l.length + o.ln ≤ 536870912) :
    Calls Try.prog 9 #[.pointer (some ⟨bn, 0, none⟩), .slice ad n cap, .agg #[.int .i64 o.k, .bool o.s, .int .i64 o.i, .slice o.la o.ln o.lc, .int .i64 o.a.r, .int .i64 o.a.k, .string o.a.t]] w fun e w' =>
      ∃ ad' n' cap' l', e = .returned (.tuple #[.slice ad' n' cap', .bool true]) ∧ StepGo B bn v (.slice ad n cap) (.slice ad' n' cap') l' w w' ∧ l'.length ≤ l.length + o.ln + 1 := by
  have hBw : B ≤ w.heap.size := by rw [← hB]; exact hb0.size
  have HW0 := Lib.hid hb0
  have HBE := Lib.hid hB
  have H := Lib.hid h
  have HH := Lib.hid hh
  have HA := Lib.hid ha
  have HBW := Lib.hid hBw
  have HO := Lib.hid ho
  obtain ⟨hn, hc⟩ := hh.len_eq
  have HN := Lib.hid hn
  have hnb : n ≤ 536870912 := by omega
  obtain ⟨ok, os, oi, la, ln, lc, ⟨oar, oak, oat⟩, ms⟩ := o
  have HL := Lib.hid hlen
  dsimp only at HL ⊢
  have hX := Blk.new w #[.int .i64 ok, .bool os, .int .i64 oi, .slice la ln lc, .int .i64 oar, .int .i64 oak, .string oat] 31
  have hB0 := (Below.refl w.heap.size w).alloc (Nat.le_refl _) (.cells #[.int .i64 ok, .bool os, .int .i64 oi, .slice la ln lc, .int .i64 oar, .int .i64 oak, .string oat] 31)
  have HX := Lib.hid hX
  have HB0 := Lib.hid hB0
  clear h hh ha hBw ho hlen hn hX hB0 hb0 hB
  go_enter Try.func9, Try.ntmps9
  by_cases e1 : ok = 1
  · subst e1
    have HML : Hid (ms.length = ln) := Lib.hid HO.out.len
    have HRD : Hid (EM.Rd w0 w0.heap.size la ms) := Lib.hid HO.out.rd
    have HLN : Hid (la = none → lc = 0) := Lib.hid HO.out.nil
    have hln5 : ln ≤ 536870912 := by have := HL.out; omega
    have HW1 : Hid (Below B w0 (w.alloc (.cells #[.int .i64 1, .bool os, .int .i64 oi, .slice la ln lc, .int .i64 oar, .int .i64 oak, .string oat] 31))) := Lib.hid (HW0.out.trans (HB0.out.mono HBW.out))
    go_upto_region 1 with fail
    obtain ⟨w1, hw1⟩ : ∃ W, Hid ((w.alloc (.cells #[.int .i64 1, .bool os, .int .i64 oi, .slice la ln lc, .int .i64 oar, .int .i64 oak, .string oat] 31)) = W) := ⟨_, Lib.hid rfl⟩
    have HX1 := HX
    have HBX := HB0
    rw [hw1.out] at HW1 HX1 HBX ⊢
    have hcl := HX1.out.lt
    have hl0 := Lib.hid (own_litM w1 w1.heap.size (Nat.le_refl _))
    have hbl := Lib.hid ((Below.refl w1.heap.size w1).alloc (Nat.le_refl _) (.cells #[] 38))
    have hrd := Lib.hid ((HRD.out.below (HW1.out.alloc (Nat.le_trans HBW.out HBX.out.size) (.cells #[] 38)) (by rw [HBE.out]; exact Nat.le_refl _)).mono (by have h1 := HW1.out.size; rw [World.size_alloc]; omega : w0.heap.size ≤ (w1.alloc (.cells #[] 38)).heap.size))
    obtain ⟨c0, c1, c2, c3, c4, c5, c6⟩ := msg_cells HX1.out
    go_wp2_with (at_builtin; refine EM.wpList_appL rfl _ _ (by rfl) w1.heap.size _ [] ms _ (by rfl) hl0.out la ln lc (by rfl) HML.out hrd.out HLN.out (by have := HML.out; simp only [List.length_nil]; omega) (by simp) ?_; intro ad2 n2 cc2 w6 h2; rw [List.nil_append] at h2)
    have hb3 := Lib.hid (h2.out.below hl0.out hbl.out (by simp))
    have HB6 := Lib.hid (HBX.out.trans (hb3.out.mono HBX.out.size))
    have HX6 := Lib.hid (HX1.out.below hb3.out HX1.out.lt)
    refine (send_any B bn v l ad2 n2 cc2 ms w6 (H.out.below HB6.out) (Nat.le_trans HBW.out HB6.out.size) h2.out.own.len_eq.1 h2.out.own.rd (sep_msgs (H.out.below HB6.out) h2.out.own) (by have h1 := h2.out.own.len_eq.1; have h3 := HML.out; have h4 := HL.out; omega)).mono ?_
    rintro e w8 ⟨rfl, hg⟩
    have HX8 := Lib.hid ((H.out.below HB6.out).keeps hg HX6.out (by decide) (by decide))
    obtain ⟨v5, N5, U5, F5⟩ := hg
    have hn2 : n2 = ln := by have h1 := h2.out.own.len_eq.1; have h3 := HML.out; omega
    subst hn2
    have HIN : Hid (EM.Own w8 w.heap.size (.slice ad2 n2 cc2) ms) := Lib.hid ((h2.out.own.upd U5 (fun g hg e => by
      rcases e with rfl | e
      · exact h2.out.own.apart (H.out.below HB6.out).blk (by decide) hg
      · have h5 := (h2.out.own.lt g hg).1
        have h6 := (H.out.own.lt g e).2
        omega)).mono fun k hk => by have h5 := (h2.out.own.lt k hk).1; omega)
    have HU := Lib.hid (upd_pre HB6.out U5)
    have HN5 := Lib.hid N5
    have HF5 := Lib.hid (fun k hk => (F5 k hk).imp id fun h => Nat.le_trans HB6.out.size h : ∀ k, v5.ownBlock = some k → v.ownBlock = some k ∨ w.heap.size ≤ k)
    clear N5 U5 F5 h2 hb3 hrd hl0 hbl HX6 c0 c1 c2 c3 c4 c5 c6
    go_wp2_with fail
    go_loopw [9, 34] (fun v9 i wr => ∃ (j : Nat) (L' : List Msg), j ≤ n2 ∧ i = .int .i64 j ∧ v9 = .bool true ∧ Hid (L'.length = n2 ∧ ∀ i, j ≤ i → L'[i]? = ms[i]?) ∧ Hid (EM.Own wr w.heap.size (.slice ad2 n2 cc2) L') ∧ Hid (NetAt wr B bn v5 (l ++ ms.map pkM)) ∧ Hid (Upd (fun k => k = bn ∨ v.ownBlock = some k) w wr) ∧ Hid (Blk wr w.heap.size 31 #[.int .i64 1, .bool os, .int .i64 oi, .slice la n2 lc, .int .i64 oar, .int .i64 oak, .string oat])) (fun _ i _ => n2 - (intOf i).toNat)
    case atStart => exact ⟨0, ms, by omega, rfl, rfl, Lib.hid ⟨HML.out, fun _ _ => rfl⟩, HIN, HN5, HU, HX8⟩
    case round =>
      obtain ⟨j, L', hj, rfl, rfl, hL', hO7, hN7, hU7, hX7⟩ := hrel
      clear HIN HN5 HU HX8
      have HB7 : Hid (Below B w0 wr) := Lib.hid (HW0.out.trans (hU7.out.below B HBW.out (fun k hk => by
        rcases hk with rfl | hk
        · exact H.out.base
        · exact (H.out.own.lt k hk).1)))
      have HR7 : Hid (EM.Rd wr w0.heap.size la ms) := Lib.hid (HRD.out.below HB7.out (by rw [HBE.out]; exact Nat.le_refl _))
      have hcl7 := hX7.out.lt
      obtain ⟨c0, c1, c2, c3, c4, c5, c6⟩ := msg_cells hX7.out
      by_cases hjn : j < n2
      · have hjn2 : (j : Int) < (n2 : Int) := by omega
        obtain ⟨m, hm⟩ : ∃ m, Hid (ms[j]? = some m) := ⟨ms[j]'(by rw [HML.out]; exact hjn), Lib.hid (by simp)⟩
        have hm' : Hid (L'[j]? = some m) := Lib.hid (by rw [hL'.out.2 j (Nat.le_refl _)]; exact hm.out)
        obtain ⟨b1, o1, e1, hl1, x0, x1, x2, x3, x4, x5, x6⟩ := rdM HR7.out j m hm.out
        obtain ⟨b2, o2, e2, hl2, y0, y1, y2, y3, y4, y5, y6⟩ := rdM hO7.out.rd j m hm'.out
        obtain ⟨r', k', t', a', m', q', p'⟩ := m
        dsimp only at x0 x1 x2 x3 x4 x5 x6 y0 y1 y2 y3 y4 y5 y6
        subst e1 e2
        have hog := ownM_zero hO7.out
        clear hl1 hl2
        go_wp2_with fail
        go_quiet (fail)
        clear x0 x1 x2 x3 x4 x5 x6 y0 y1 y2 y3 y4 y5 y6 c0 c1 c2 c3 c4 c5 c6
        have hbd := Lib.hid (below_drewM wr nq)
        have HO6 := Lib.hid (hO7.out.below hbd.out (Nat.le_refl _))
        have HN6 := Lib.hid (hN7.out.below hbd.out)
        have HX6 := Lib.hid (hX7.out.below hbd.out hX7.out.lt)
        have HU6 := Lib.hid (upd_post hU7.out hbd.out)
        generalize wr.drewN nq = w6 at HO6 HN6 HX6 HU6 ⊢
        clear hbd HB7 HR7
        obtain ⟨b3, o3, e3, hl3, y0, y1, y2, y3, y4, y5, y6⟩ := rdM HO6.out.rd j _ hm'.out
        simp only [Option.some.injEq, Addr.mk.injEq, and_true] at e3
        obtain ⟨rfl, rfl⟩ := e3
        have hfr := ownM_free hog.out HO6.out
        dsimp only at y0 y1 y2 y3 y4 y5 y6
        clear hl3
        go_wp2_with fail
        have hst := Lib.hid (ownM_stored hog.out HO6.out j (by rw [hL'.out.1]; exact hjn) ⟨0, 0, ⟨#[115, 112, 111, 105, 108, 116]⟩, 0, 0, ⟨#[]⟩, ⟨#[]⟩⟩)
        have hup := Lib.hid (upd_setCells w6 b2 (o2 + j * 7) (Msg.cs ⟨0, 0, ⟨#[115, 112, 111, 105, 108, 116]⟩, 0, 0, ⟨#[]⟩, ⟨#[]⟩⟩))
        go_roundw
        case rel =>
          refine ⟨j + 1, _, by omega, by go_num, rfl, Lib.hid ⟨by rw [List.length_set]; exact hL'.out.1, fun i hi => ?_⟩, hst, ?_, ?_, ?_⟩
          · rw [List.getElem?_set_ne (by omega)]
            exact hL'.out.2 i (by omega)
          · exact Lib.hid (HN6.out.upd hup.out (fun e => (sep_msgs HN6.out HO6.out b2 o2 rfl).1 e.symm) (fun g hg e => (sep_msgs HN6.out HO6.out b2 o2 rfl).2 (e ▸ hg)))
          · exact Lib.hid (HU6.out.trans hup.out (fun _ _ h => h) (fun g hg e => by
              have h5 := (HO6.out.lt b2 rfl).1
              omega))
          · exact Lib.hid (hup.out.blk HX6.out (fun e => HO6.out.apart HX6.out (by decide) (by rw [e]; rfl)))
        case measure => simp [intOf]; omega
      · have hjn2 : ¬ (j : Int) < (n2 : Int) := by omega
        obtain rfl : j = n2 := by omega
        go_wp2_with fail
        have HR8 : Hid (RdS wr ad n cap l) := Lib.hid (own_rds (HH.out.upd hU7.out fun g hg e => by
          rcases e with rfl | e
          · exact HH.out.apart H.out.blk (by decide) hg
          · exact HA.out g e hg))
        refine (refSend_any ad n cap l la j lc ms wr HR8.out HML.out (HR7.out.mono (Nat.le_trans (by rw [HBE.out]; exact HBW.out) hU7.out.size)) (by have := HL.out; omega)).mono ?_
        rintro e w9 ⟨ad', n', c', rfl, hn', hb⟩
        have HN' := Lib.hid hn'
        have HB9 := Lib.hid hb
        clear hn' hb c0 c1 c2 c3 c4 c5 c6
        go_wp2_with fail
        go_ret2
        refine ⟨ad', n', c', _, rfl, ⟨v5, hN7.out.below HB9.out, HN'.out.mono (fun k hk => ?_), fun k h1 h2 => ?_, upd_post hU7.out HB9.out, HF5.out, fun k hk => .inr ?_⟩, by have := HML.out; rw [List.length_append, List.length_map]; omega⟩
        · exact Nat.le_trans (Nat.le_trans HBW.out hU7.out.size) (HN'.out.lt k hk).1
        · have h3 := (hN7.out.own.lt k h1).2
          have h4 := (HN'.out.lt k h2).1
          omega
        · exact Nat.le_trans hU7.out.size (HN'.out.lt k hk).1
  by_cases e2 : ok = 2
  · subst e2
    go_wp2_with fail
    refine (reply_any B bn v l ⟨oar, oak, oat⟩ _ (H.out.below HB0.out) (Nat.le_trans HBW.out HB0.out.size) (by have := HL.out; omega)).mono ?_
    rintro e w2 ⟨rfl, hg⟩
    have HG := Lib.hid hg
    have HX2 := Lib.hid ((H.out.below HB0.out).keeps hg HX.out (by decide) (by decide))
    clear hg
    obtain ⟨c0, c1, c2, c3, c4, c5, c6⟩ := msg_cells HX2.out
    go_wp2_with fail
    refine (refReply_any ad n cap l oar oak oat w2 (rds_go H.out HH.out HA.out HB0.out HG.out) (by have := HL.out; omega)).mono ?_
    rintro e w3 ⟨ad', n', c', rfl, hn', hb⟩
    have HN' := Lib.hid hn'
    have HB3 := Lib.hid hb
    clear hn' hb
    go_wp2_with fail
    go_ret2
    exact ⟨ad', n', c', _, rfl, stepgo_after H.out HBW.out HB0.out HG.out HB3.out HN'.out, by simp⟩
  by_cases e3 : ok = 3
  · subst e3
    obtain ⟨c0, c1, c2, c3, c4, c5, c6⟩ := msg_cells HX.out
    by_cases hy : ∃ j : Nat, oi = (j : Int) ∧ j < n
    · obtain ⟨j, rfl, hj⟩ := hy
      obtain ⟨p, hp⟩ : ∃ p, Hid (l[j]? = some p) := ⟨l[j]'(by rw [HN.out]; exact hj), Lib.hid (by simp)⟩
      go_wp2_with fail
      refine (refTake_yes ad n cap l p j hp.out _ ((own_rds HH.out).later HB0.out) (by have := HL.out; omega)).mono ?_
      rintro e w1 ⟨ad', n', c', rfl, hn', hb⟩
      have HB1 := Lib.hid (HB0.out.trans (hb.mono HB0.out.size))
      have HX1 := Lib.hid (HX.out.below hb HX.out.lt)
      have HN1 := Lib.hid (hn'.mono (B' := w.heap.size) (fun k hk => Nat.le_trans HB0.out.size (hn'.lt k hk).1))
      clear hb hn' c0 c1 c2 c3 c4 c5 c6
      obtain ⟨pb, ⟨mr, mk, mt, ma, mm, mc, mp⟩, ⟨ar, ak, at'⟩⟩ := p
      dsimp only [Pk.cs]
      have hcl := HX1.out.lt
      have HB2 := Lib.hid (HB1.out.alloc HB1.out.size (.cells #[.bool pb, .int .i64 mr, .int .i64 mk, .string mt, .int .i64 ma, .int .i64 mm, .string mc, .string mp, .int .i64 ar, .int .i64 ak, .string at'] 40))
      have HX2 := Lib.hid (HX1.out.alloc (.cells #[.bool pb, .int .i64 mr, .int .i64 mk, .string mt, .int .i64 ma, .int .i64 mm, .string mc, .string mp, .int .i64 ar, .int .i64 ak, .string at'] 40))
      have HN2 := Lib.hid (HN1.out.alloc (.cells #[.bool pb, .int .i64 mr, .int .i64 mk, .string mt, .int .i64 ma, .int .i64 mm, .string mc, .string mp, .int .i64 ar, .int .i64 ak, .string at'] 40))
      have HP2 := Lib.hid (Blk.new w1 #[.bool pb, .int .i64 mr, .int .i64 mk, .string mt, .int .i64 ma, .int .i64 mm, .string mc, .string mp, .int .i64 ar, .int .i64 ak, .string at'] 40)
      obtain ⟨w2, hw2⟩ : ∃ w2, Hid (w1.alloc (.cells #[.bool pb, .int .i64 mr, .int .i64 mk, .string mt, .int .i64 ma, .int .i64 mm, .string mc, .string mp, .int .i64 ar, .int .i64 ak, .string at'] 40) = w2) := ⟨_, Lib.hid rfl⟩
      obtain ⟨c0, c1, c2, c3, c4, c5, c6⟩ := msg_cells HX1.out
      go_wp2_with fail
      rw [hw2.out] at HB2 HX2 HN2 HP2 ⊢
      refine (take_yes B bn v l _ j hp.out w2 (H.out.below HB2.out) (by have := HL.out; omega)).mono ?_
      rintro e w3 ⟨rfl, hg⟩
      have HG := Lib.hid hg
      have HP3 := Lib.hid (blk_go H.out HB2.out hg HP2.out HB1.out.size)
      clear hg c0 c1 c2 c3 c4 c5 c6
      dsimp only [Pk.cs]
      obtain ⟨e0, e1, e2, e3, e4, e5, e6, e7, e8, e9, e10⟩ := pk_cells HP3.out
      have hcl3 := HP3.out.lt
      go_wp2_with fail
      go_ret2
      exact ⟨ad', n', c', _, rfl, stepgo_new H.out HBW.out HB2.out HN2.out HG.out (below_alloc1 _ _), by have := List.length_eraseIdx_le l j; omega⟩
    · have HF := Lib.hid (no_has n oi hy)
      clear hy
      go_wp2_with fail
      refine (refTake_no ad n cap oi HF.out _).mono ?_
      rintro e w1 ⟨rfl, hb⟩
      have HB1 := Lib.hid (HB0.out.trans (hb.mono HB0.out.size))
      have HX1 := Lib.hid (HX.out.below hb HX.out.lt)
      clear hb c0 c1 c2 c3 c4 c5 c6
      simp only [Pk.zero, Msg.zero, Ans.zero, Pk.cs]
      have hcl := HX1.out.lt
      have HB2 := Lib.hid (HB1.out.alloc HB1.out.size (.cells #[.bool false, .int .i64 0, .int .i64 0, .string ⟨#[]⟩, .int .i64 0, .int .i64 0, .string ⟨#[]⟩, .string ⟨#[]⟩, .int .i64 0, .int .i64 0, .string ⟨#[]⟩] 40))
      have HP2 := Lib.hid (Blk.new w1 #[.bool false, .int .i64 0, .int .i64 0, .string ⟨#[]⟩, .int .i64 0, .int .i64 0, .string ⟨#[]⟩, .string ⟨#[]⟩, .int .i64 0, .int .i64 0, .string ⟨#[]⟩] 40)
      obtain ⟨w2, hw2⟩ : ∃ w2, Hid (w1.alloc (.cells #[.bool false, .int .i64 0, .int .i64 0, .string ⟨#[]⟩, .int .i64 0, .int .i64 0, .string ⟨#[]⟩, .string ⟨#[]⟩, .int .i64 0, .int .i64 0, .string ⟨#[]⟩] 40) = w2) := ⟨_, Lib.hid rfl⟩
      obtain ⟨c0, c1, c2, c3, c4, c5, c6⟩ := msg_cells HX1.out
      go_wp2_with fail
      rw [hw2.out] at HB2 HP2 ⊢
      refine (take_no B bn v l n HN.out oi HF.out w2 (H.out.below HB2.out)).mono ?_
      rintro e w3 ⟨rfl, hb⟩
      have HB3 := Lib.hid (HB2.out.trans (hb.mono HB2.out.size))
      have HP3 := Lib.hid (HP2.out.below hb HP2.out.lt)
      clear hb c0 c1 c2 c3 c4 c5 c6
      simp only [Pk.zero, Msg.zero, Ans.zero, Pk.cs]
      obtain ⟨e0, e1, e2, e3, e4, e5, e6, e7, e8, e9, e10⟩ := pk_cells HP3.out
      have hcl3 := HP3.out.lt
      go_wp2_with fail
      go_ret2
      exact ⟨ad, n, cap, l, rfl, stepgo_same H.out HH.out HA.out (HB3.out.alloc HB3.out.size _), by omega⟩
  by_cases e4 : ok = 4
  · subst e4
    obtain ⟨c0, c1, c2, c3, c4, c5, c6⟩ := msg_cells HX.out
    by_cases hy : ∃ j : Nat, oi = (j : Int) ∧ j < n
    · obtain ⟨j, rfl, hj⟩ := hy
      obtain ⟨p, hp⟩ : ∃ p, Hid (l[j]? = some p) := ⟨l[j]'(by rw [HN.out]; exact hj), Lib.hid (by simp)⟩
      go_wp2_with fail
      refine (refTake_yes ad n cap l p j hp.out _ ((own_rds HH.out).later HB0.out) (by have := HL.out; omega)).mono ?_
      rintro e w1 ⟨ad', n', c', rfl, hn', hb⟩
      have HB1 := Lib.hid (HB0.out.trans (hb.mono HB0.out.size))
      have HX1 := Lib.hid (HX.out.below hb HX.out.lt)
      have HN1 := Lib.hid (hn'.mono (B' := w.heap.size) (fun k hk => Nat.le_trans HB0.out.size (hn'.lt k hk).1))
      clear hb hn' c0 c1 c2 c3 c4 c5 c6
      obtain ⟨pb, ⟨mr, mk, mt, ma, mm, mc, mp⟩, ⟨ar, ak, at'⟩⟩ := p
      dsimp only [Pk.cs]
      have hcl := HX1.out.lt
      have HB2 := Lib.hid (HB1.out.alloc HB1.out.size (.cells #[.bool pb, .int .i64 mr, .int .i64 mk, .string mt, .int .i64 ma, .int .i64 mm, .string mc, .string mp, .int .i64 ar, .int .i64 ak, .string at'] 40))
      have HX2 := Lib.hid (HX1.out.alloc (.cells #[.bool pb, .int .i64 mr, .int .i64 mk, .string mt, .int .i64 ma, .int .i64 mm, .string mc, .string mp, .int .i64 ar, .int .i64 ak, .string at'] 40))
      have HN2 := Lib.hid (HN1.out.alloc (.cells #[.bool pb, .int .i64 mr, .int .i64 mk, .string mt, .int .i64 ma, .int .i64 mm, .string mc, .string mp, .int .i64 ar, .int .i64 ak, .string at'] 40))
      have HP2 := Lib.hid (Blk.new w1 #[.bool pb, .int .i64 mr, .int .i64 mk, .string mt, .int .i64 ma, .int .i64 mm, .string mc, .string mp, .int .i64 ar, .int .i64 ak, .string at'] 40)
      obtain ⟨w2, hw2⟩ : ∃ w2, Hid (w1.alloc (.cells #[.bool pb, .int .i64 mr, .int .i64 mk, .string mt, .int .i64 ma, .int .i64 mm, .string mc, .string mp, .int .i64 ar, .int .i64 ak, .string at'] 40) = w2) := ⟨_, Lib.hid rfl⟩
      obtain ⟨c0, c1, c2, c3, c4, c5, c6⟩ := msg_cells HX1.out
      go_wp2_with fail
      rw [hw2.out] at HB2 HX2 HN2 HP2 ⊢
      refine (lose_yes B bn v l _ j hp.out w2 (H.out.below HB2.out) (by have := HL.out; omega)).mono ?_
      rintro e w3 ⟨rfl, hg⟩
      have HG := Lib.hid hg
      clear hg
      go_wp2_with fail
      go_ret2
      exact ⟨ad', n', c', _, rfl, stepgo_new H.out HBW.out HB2.out HN2.out HG.out (Below.refl _ _), by have := List.length_eraseIdx_le l j; omega⟩
    · have HF := Lib.hid (no_has n oi hy)
      clear hy
      go_wp2_with fail
      refine (refTake_no ad n cap oi HF.out _).mono ?_
      rintro e w1 ⟨rfl, hb⟩
      have HB1 := Lib.hid (HB0.out.trans (hb.mono HB0.out.size))
      have HX1 := Lib.hid (HX.out.below hb HX.out.lt)
      clear hb c0 c1 c2 c3 c4 c5 c6
      simp only [Pk.zero, Msg.zero, Ans.zero, Pk.cs]
      have hcl := HX1.out.lt
      have HB2 := Lib.hid (HB1.out.alloc HB1.out.size (.cells #[.bool false, .int .i64 0, .int .i64 0, .string ⟨#[]⟩, .int .i64 0, .int .i64 0, .string ⟨#[]⟩, .string ⟨#[]⟩, .int .i64 0, .int .i64 0, .string ⟨#[]⟩] 40))
      have HP2 := Lib.hid (Blk.new w1 #[.bool false, .int .i64 0, .int .i64 0, .string ⟨#[]⟩, .int .i64 0, .int .i64 0, .string ⟨#[]⟩, .string ⟨#[]⟩, .int .i64 0, .int .i64 0, .string ⟨#[]⟩] 40)
      obtain ⟨w2, hw2⟩ : ∃ w2, Hid (w1.alloc (.cells #[.bool false, .int .i64 0, .int .i64 0, .string ⟨#[]⟩, .int .i64 0, .int .i64 0, .string ⟨#[]⟩, .string ⟨#[]⟩, .int .i64 0, .int .i64 0, .string ⟨#[]⟩] 40) = w2) := ⟨_, Lib.hid rfl⟩
      obtain ⟨c0, c1, c2, c3, c4, c5, c6⟩ := msg_cells HX1.out
      go_wp2_with fail
      rw [hw2.out] at HB2 HP2 ⊢
      refine (lose_no B bn v l n HN.out oi HF.out w2 (H.out.below HB2.out)).mono ?_
      rintro e w3 ⟨rfl, hb⟩
      have HB3 := Lib.hid (HB2.out.trans (hb.mono HB2.out.size))
      clear hb
      go_wp2_with fail
      go_ret2
      exact ⟨ad, n, cap, l, rfl, stepgo_same H.out HH.out HA.out HB3.out, by omega⟩
  by_cases e5 : ok = 5
  · subst e5
    obtain ⟨c0, c1, c2, c3, c4, c5, c6⟩ := msg_cells HX.out
    by_cases hy : ∃ j : Nat, oi = (j : Int) ∧ j < n
    · obtain ⟨j, rfl, hj⟩ := hy
      obtain ⟨p, hp⟩ : ∃ p, Hid (l[j]? = some p) := ⟨l[j]'(by rw [HN.out]; exact hj), Lib.hid (by simp)⟩
      go_wp2_with fail
      refine (refDouble_yes ad n cap l p j hp.out _ ((own_rds HH.out).later HB0.out) (by have := HL.out; omega)).mono ?_
      rintro e w1 ⟨ad', n', c', rfl, hn', hb⟩
      have HB1 := Lib.hid (HB0.out.trans (hb.mono HB0.out.size))
      have HX1 := Lib.hid (HX.out.below hb HX.out.lt)
      have HN1 := Lib.hid (hn'.mono (B' := w.heap.size) (fun k hk => Nat.le_trans HB0.out.size (hn'.lt k hk).1))
      clear hb hn' c0 c1 c2 c3 c4 c5 c6
      obtain ⟨pb, ⟨mr, mk, mt, ma, mm, mc, mp⟩, ⟨ar, ak, at'⟩⟩ := p
      dsimp only [Pk.cs]
      have hcl := HX1.out.lt
      have HB2 := HB1
      have HN2 := HN1
      obtain ⟨c0, c1, c2, c3, c4, c5, c6⟩ := msg_cells HX1.out
      go_wp2_with fail
      refine (double_yes B bn v l _ j hp.out w1 (H.out.below HB2.out) (Nat.le_trans HBW.out HB2.out.size) (by have := HL.out; omega)).mono ?_
      rintro e w3 ⟨rfl, hg⟩
      have HG := Lib.hid hg
      clear hg
      go_wp2_with fail
      go_ret2
      exact ⟨ad', n', c', _, rfl, stepgo_new H.out HBW.out HB2.out HN2.out HG.out (Below.refl _ _), by simp⟩
    · have HF := Lib.hid (no_has n oi hy)
      clear hy
      go_wp2_with fail
      refine (refDouble_no ad n cap oi HF.out _).mono ?_
      rintro e w1 ⟨rfl, rfl⟩
      go_wp2_with fail
      refine (double_no B bn v l n HN.out oi HF.out _ (H.out.below HB0.out)).mono ?_
      rintro e w3 ⟨rfl, rfl⟩
      go_wp2_with fail
      go_ret2
      exact ⟨ad, n, cap, l, rfl, stepgo_same H.out HH.out HA.out HB0.out, by omega⟩
  by_cases e6 : ok = 6
  · subst e6
    go_wp2_with fail
    refine (told_any B bn v l ad n cap _ (H.out.below HB0.out) HN.out (HH.out.rd.later HB0.out) (by have := HL.out; omega)).mono ?_
    rintro e w2 ⟨rfl, hb⟩
    have HB2 := Lib.hid (HB0.out.trans (hb.mono HB0.out.size))
    clear hb
    go_wp2_with fail
    go_ret2
    exact ⟨ad, n, cap, l, rfl, stepgo_same H.out HH.out HA.out HB2.out, by omega⟩
  · have e1 : (ok == 1) = false := beq_eq_false_iff_ne.2 e1
    have e2 : (ok == 2) = false := beq_eq_false_iff_ne.2 e2
    have e3 : (ok == 3) = false := beq_eq_false_iff_ne.2 e3
    have e4 : (ok == 4) = false := beq_eq_false_iff_ne.2 e4
    have e5 : (ok == 5) = false := beq_eq_false_iff_ne.2 e5
    have e6 : (ok == 6) = false := beq_eq_false_iff_ne.2 e6
    go_wp2_with fail
    go_ret2
    exact ⟨ad, n, cap, l, rfl, stepgo_same H.out HH.out HA.out HB0.out, by omega⟩
end Go.Proofs.Ytlnhpeghgabnkaa
