/-
  Layer 11: the document's answer: Put, Of.
-/
import Derived.Test.YtiffjjophmgdlaaRef
import Derived.Deep.RegionHeldLaw
namespace Go.Proofs.Ytiffjjophmgdlaa
open Go.RowKit Tb
attribute [local go_sem ↓] Go.wp_at_zero Go.wp_at_succ

/-- Where Put stands: the variable out at block o holds v, a list of its own; nothing else of the world w4 has changed. -/
structure PutSt (w4 : World) (o : Nat) (W : World) (v : Value) (l : List Rw) : Prop where
  blk : Blk W o 30 #[v]
  own : ER.Own W w4.heap.size v l
  upd : Upd (fun k => k = o) w4 W
theorem PutSt.drew {w4 W : World} {o : Nat} {v : Value} {l : List Rw} (h : PutSt w4 o W v l) : PutSt w4 o W.drew v l := ⟨h.blk.drew, h.own.drew, h.upd.drew⟩
theorem PutSt.kept {w4 W w1 : World} {o : Nat} {v v' : Value} {l l' : List Rw} (h : PutSt w4 o W v l) (ha : ER.Apd W w4.heap.size v l' v' w1) : Blk w1 o 30 #[v] := ha.upd.blk h.blk (h.own.apart h.blk (by decide))
theorem PutSt.app {w4 W w1 : World} {o : Nat} {v v' : Value} {l l' : List Rw} (h : PutSt w4 o W v l) (ha : ER.Apd W w4.heap.size v l' v' w1) : PutSt w4 o (w1.setCell ⟨o, 0, none⟩ v') v' l' := by
  refine ⟨(h.kept ha).set v', ha.own.same fun g hg => Below.heap_setCell _ _ _ _ (fun e => ?_), ?_⟩
  · have e' : g = o := e
    subst e'
    exact ha.own.apart (h.kept ha) (by decide) hg
  · exact (h.upd.trans (S'' := fun k => k = o) ha.upd (fun _ _ h => h) (fun j hj hk => by have := (h.own.lt j hk).1; omega)).setCell _ _ fun _ => rfl
theorem PutSt.row {w4 W : World} {o : Nat} {v u : Value} {l m : List Rw} {B : Nat} (h : PutSt w4 o W v l) (hb : Blk w4 o 30 #[.slice none 0 0]) (hm : ER.Own w4 B u m) : ER.Own W B u m := hm.upd h.upd fun g hg e => by
  subst e
  exact hm.apart hb (by decide) hg
theorem PutSt.box {w4 W : World} {o r : Nat} {v : Value} {l : List Rw} {t : TypeId} {cs : Array Value} (h : PutSt w4 o W v l) (hr : Blk w4 r t cs) (hn : r ≠ o) : Blk W r t cs := h.upd.blk hr hn
set_option maxRecDepth 100000 in
set_option maxHeartbeats 8000000 in
theorem refPut_any (ad : Option Addr) (n cap : Nat) (l : List Rw) (key val : ByteArray) (w : World) (h : RdS w ad n cap l) (hlen : n ≤ 20001) :
    Calls Try.prog 20 #[.agg #[.slice ad n cap], .string key, .string val] w fun e w' => ∃ ad' n' c', e = .returned (.tuple #[.agg #[.slice ad' n' c'], .bool (has l key)]) ∧ ER.Own w' w.heap.size (.slice ad' n' c') (rput l key val) ∧ Below w.heap.size w w' := by
  have hb0 := Lib.hid (((Below.refl w.heap.size w).alloc (Nat.le_refl _) (.cells #[.slice ad n cap] 30)).alloc (by simp) (.cells #[.slice none 0 0] 30))
  have b1 := Blk.new (w.alloc (.cells #[.slice ad n cap] 30)) #[.slice none 0 0] 30
  rw [World.size_alloc] at b1
  have B1 := Lib.hid b1
  have H := Lib.hid (h.later hb0.out)
  have hdl : Hid ((del l key).length ≤ 20001) := Lib.hid (by have h1 := del_len l key; have := h.len; omega)
  clear h b1
  go_enter Try.func20, Try.ntmps20
  go_wp2_with fail
  refine (refDelete_any ad n cap l key _ H.out hlen).mono ?_
  rintro e w1 ⟨ad1, n1, c1, rfl, ho1, hbw⟩
  have B1' := Lib.hid (B1.out.below hbw B1.out.lt)
  have HB1 := Lib.hid (hb0.out.trans (hbw.mono (by simp; omega)))
  have HO1 := Lib.hid ho1
  have hn1 := ho1.len_eq
  have hn1b : n1 ≤ 20001 := by have := hdl.out; omega
  have hsw1 : w.heap.size + 1 < w1.heap.size := B1'.out.lt
  clear ho1 hbw B1 hb0 H
  obtain ⟨w2, hw2⟩ : ∃ w2, Hid (w1.alloc (.cells #[.slice ad1 n1 c1] 30) = w2) := ⟨_, Lib.hid rfl⟩
  have HB2 : Hid (Below w1.heap.size w1 w2) := by rw [← hw2.out]; exact Lib.hid ((Below.refl _ _).alloc (Nat.le_refl _) _)
  have HR2 : Hid (Blk w2 w1.heap.size 30 #[.slice ad1 n1 c1]) := by rw [← hw2.out]; exact Lib.hid (Blk.new _ _ _)
  have HO2 := Lib.hid (HO1.out.below HB2.out (Nat.le_refl _))
  have B2' := Lib.hid (B1'.out.below HB2.out B1'.out.lt)
  have d0 : w2.cell? ⟨w1.heap.size, 0, none⟩ = some (.slice ad1 n1 c1) := HR2.out.at_ 0
  have k1 := place_le (del l key) key
  obtain ⟨i, hi⟩ : ∃ i, Hid (place (del l key) key = i) := ⟨_, Lib.hid rfl⟩
  rw [hi.out] at k1
  have hin : i ≤ n1 := by omega
  have hic : i ≤ c1 := by omega
  clear k1
  go_wp2_with fail
  rw [hw2.out]
  refine (refPlace_any ad1 n1 c1 (del l key) key w2 (RdS.of_own HO2.out) hn1b).mono ?_
  rintro e w3 ⟨rfl, hb3⟩
  rw [hi.out]
  have HB3 := Lib.hid hb3
  obtain ⟨w4, hw4⟩ : ∃ w4, Hid (w3.alloc (.cells #[.slice none 0 0] 30) = w4) := ⟨_, Lib.hid rfl⟩
  have HB4 : Hid (Below w3.heap.size w3 w4) := by rw [← hw4.out]; exact Lib.hid ((Below.refl _ _).alloc (Nat.le_refl _) _)
  have HO4 : Hid (Blk w4 w3.heap.size 30 #[.slice none 0 0]) := by rw [← hw4.out]; exact Lib.hid (Blk.new _ _ _)
  have HB24 := Lib.hid (HB3.out.trans (HB4.out.mono HB3.out.size))
  have HR4 := Lib.hid (HR2.out.below HB24.out HR2.out.lt)
  have HW4 := Lib.hid (HO2.out.below HB24.out (Nat.le_refl _))
  have B4 := Lib.hid (B2'.out.below HB24.out B2'.out.lt)
  have HBw4 := Lib.hid ((HB1.out.trans (HB2.out.mono HB1.out.size)).trans (HB24.out.mono (Nat.le_trans HB1.out.size HB2.out.size)))
  have hlt3 : w1.heap.size < w3.heap.size := Nat.lt_of_lt_of_le HR2.out.lt HB3.out.size
  have hS4 : Hid (PutSt w4 w3.heap.size w4 (.slice none 0 0) []) := Lib.hid ⟨HO4.out, Elt.Own.nil _ _ _, Upd.refl _ _⟩
  have d4 : w4.cell? ⟨w1.heap.size, 0, none⟩ = some (.slice ad1 n1 c1) := HR4.out.at_ 0
  have e4 : w4.cell? ⟨w3.heap.size, 0, none⟩ = some (.slice none 0 0) := HO4.out.at_ 0
  have hsl1 : ∀ W : World, (Instr.slice 22 (.slice ad1 n1 c1) none (some (.int .i64 (i : Int))) none).run Try.prog W = .ok (.slice ad1 i c1) W := fun W => ER.slice_to ad1 n1 c1 i _ rfl hic W
  obtain ⟨A, hA⟩ : ∃ A, Hid ((if c1 = i then ad1 else ad1.map (fun a => a.add (i * ER.size))) = A) := ⟨_, Lib.hid rfl⟩
  have hsl2 : ∀ W : World, (Instr.slice 22 (.slice ad1 n1 c1) (some (.int .i64 (i : Int))) none none).run Try.prog W = .ok (.slice A (n1 - i) (c1 - i)) W := fun W => by rw [← hA.out]; exact ER.slice_from ad1 n1 c1 i _ rfl hin W
  have hRd4 := Lib.hid (RdS.of_own HW4.out)
  clear hb3 d0
  go_wp2_with fail
  rw [hw4.out]
  have hrd5 : Hid (ER.Rd w4.drew w4.drew.heap.size ad1 ((del l key).take i)) := Lib.hid (hRd4.out.rd.take i)
  have hlt5 : Hid (((del l key).take i).length = i) := Lib.hid (by rw [List.length_take]; omega)
  obtain ⟨W5, hW5⟩ : ∃ W5, Hid (w4.drew = W5) := ⟨_, Lib.hid rfl⟩
  have hS5 : Hid (PutSt w4 w3.heap.size W5 (.slice none 0 0) []) := by rw [← hW5.out]; exact Lib.hid hS4.out.drew
  rw [hW5.out] at hrd5
  go_region_law (rw [hW5.out]; refine ER.step_appL rfl _ _ (by rfl) w4.heap.size _ [] ((del l key).take i) W5 (by rfl) hS5.out.own ad1 i c1 (by rfl) hlt5.out hrd5.out hRd4.out.nil (by have := hlt5.out; simp; omega) hS5.out.upd.size ?_; intro ad6 n6 c6 w6 h6; have k6 := hS5.out.kept h6.out; have x6 := k6.at_ 0; have y6 := k6.free 0)
  all_goals
    rw [List.nil_append] at h6
    have hS7 := Lib.hid (hS5.out.app h6.out)
    obtain ⟨W7, hW7⟩ : ∃ W7, Hid (w6.setCell ⟨w3.heap.size, 0, none⟩ (.slice ad6 n6 c6) = W7) := ⟨_, Lib.hid rfl⟩
    rw [hW7.out] at hS7
    have x7 : W7.cell? ⟨w3.heap.size, 0, none⟩ = some (.slice ad6 n6 c6) := hS7.out.blk.at_ 0
    have hl7 : Hid (((del l key).take i).length + 1 ≤ 274877906944) := Lib.hid (by have := hlt5.out; omega)
    have h34 : w3.heap.size < w4.heap.size := HO4.out.lt
    clear x6 y6 k6 hS5 hrd5
    rw [hW7.out]
    go_wp2_with (at_builtin; refine ER.wpList_app rfl _ _ (by rfl) w4.heap.size _ _ [(key, val)] W7 _ (by rfl) hS7.out.own _ 1 (by rfl) (by rfl) (by rfl) (by rfl) hl7.out hS7.out.upd.size ?_; intro ad8 n8 c8 w8 h8; have k8 := hS7.out.kept h8.out; have x8 := k8.at_ 0; have y8 := k8.free 0)
    have hS9 := Lib.hid (hS7.out.app h8.out).drew
    obtain ⟨W9, hW9⟩ : ∃ W9, Hid ((w8.setCell ⟨w3.heap.size, 0, none⟩ (.slice ad8 n8 c8)).drew = W9) := ⟨_, Lib.hid rfl⟩
    have x9 : (w8.setCell ⟨w3.heap.size, 0, none⟩ (.slice ad8 n8 c8)).cell? ⟨w3.heap.size, 0, none⟩ = some (.slice ad8 n8 c8) := hS9.out.blk.at_ 0
    have d9 : (w8.setCell ⟨w3.heap.size, 0, none⟩ (.slice ad8 n8 c8)).cell? ⟨w1.heap.size, 0, none⟩ = some (.slice ad1 n1 c1) := (hS9.out.box HR4.out (by omega)).at_ 0
    rw [hW9.out] at hS9
    have hRd9 := Lib.hid (RdS.of_own (hS9.out.row HO4.out HW4.out))
    have hrd9 := Lib.hid (hRd9.out.rd.drop hn1.1 hn1.2 hA.out)
    have hld9 : Hid (((del l key).drop i).length = n1 - i) := Lib.hid (by rw [List.length_drop, hn1.1])
    have hl9 : Hid (((del l key).take i ++ [(key, val)]).length + ((del l key).drop i).length ≤ 274877906944) := Lib.hid (by have := hlt5.out; have := hld9.out; simp only [List.length_append, List.length_singleton]; omega)
    have hAn : Hid (A = none → c1 - i = 0) := Lib.hid (by
      intro e
      have h1 := hA.out
      have h2 := hRd9.out.nil
      split at h1
      · omega
      · subst h1
        cases had : ad1 with
        | none => have := h2 had; omega
        | some a => rw [had] at e; cases e)
    clear x8 y8 k8 x7 d4 e4
    go_region_law (rw [hW9.out]; refine ER.step_appL rfl _ _ (by rfl) w4.heap.size _ _ ((del l key).drop i) W9 (by rfl) hS9.out.own A (n1 - i) (c1 - i) (by rfl) hld9.out hrd9.out hAn.out hl9.out hS9.out.upd.size ?_; intro ad10 n10 c10 w10 h10; have k10 := hS9.out.kept h10.out; have x10 := k10.at_ 0; have y10 := k10.free 0)
    all_goals
      have hS11 := Lib.hid (hS9.out.app h10.out)
      have x11 : (w10.setCell ⟨w3.heap.size, 0, none⟩ (.slice ad10 n10 c10)).cell? ⟨w3.heap.size, 0, none⟩ = some (.slice ad10 n10 c10) := hS11.out.blk.at_ 0
      have b11 := hS11.out.box B4.out (by omega)
      have g11 : (w10.setCell ⟨w3.heap.size, 0, none⟩ (.slice ad10 n10 c10)).cell? ⟨w.heap.size + 1, 0, none⟩ = some (.slice none 0 0) := b11.at_ 0
      have f11 := b11.free 0
      clear x10 y10 k10
      go_wp2_with fail
      have z0 : ((w10.setCell ⟨w3.heap.size, 0, none⟩ (.slice ad10 n10 c10)).setCell ⟨w.heap.size + 1, 0, none⟩ (.slice ad10 n10 c10)).cell? ⟨w.heap.size + 1, 0, none⟩ = some (.slice ad10 n10 c10) := (b11.set (j := 0) (.slice ad10 n10 c10)).at_ 0
      refine bodyPost_ret (v := .tuple #[.agg #[.slice ad10 n10 c10], .bool (has l key)]) ?_ rfl ?_
      · simp [results, Try.f20, go_sem, z0]
      · refine ⟨_, _, _, rfl, ?_, ?_⟩
        · have h1 := hS11.out.own
          rw [List.append_assoc, List.singleton_append] at h1
          rw [rput_eq, hi.out]
          refine (h1.mono (fun k hk => Nat.le_trans HBw4.out.size (h1.lt k hk).1)).same fun g hg => Below.heap_setCell _ _ _ _ (fun e => ?_)
          have e' : g = w.heap.size + 1 := e
          have := (h1.lt g hg).1
          omega
        · exact (HBw4.out.trans (hS11.out.upd.below w.heap.size HBw4.out.size (fun k hk => by omega))).setCell (p := ⟨w.heap.size + 1, 0, none⟩) (by simp) _
theorem rput_len (l : List Rw) (k v : ByteArray) : (rput l k v).length ≤ l.length + 1 := by
  have h1 := del_len l k
  have h2 := place_le (del l k) k
  rw [rput_eq, List.length_append, List.length_cons, List.length_take, List.length_drop]
  omega
theorem ref_take {l : List Rw} {k : Nat} {r : Rw} (h : l[k]? = some r) : refOf (l.take (k + 1)) = rput (refOf (l.take k)) r.1 r.2 := by
  obtain ⟨h1, h2⟩ := List.getElem?_eq_some_iff.1 h
  rw [List.take_succ_eq_append_getElem h1, h2, ← refOf_snoc]
theorem ref_len (l : List Rw) : (refOf l).length ≤ l.length := by
  rw [← (of_ino l).1, ← cnt_eq]
  exact of_cnt l
end Go.Proofs.Ytiffjjophmgdlaa
