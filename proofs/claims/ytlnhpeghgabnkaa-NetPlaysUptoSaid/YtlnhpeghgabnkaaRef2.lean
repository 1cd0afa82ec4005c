/-
  Layer 25: the document's answer: Reply, Double, Take.
-/
import Derived.Test.YtlnhpeghgabnkaaRef
import Derived.IntWalk
namespace Go.Proofs.Ytlnhpeghgabnkaa
open Go.RowKit
attribute [local go_sem ↓] Go.wp_at_zero Go.wp_at_succ

theorem own_lit1 (W : World) (o : Obj) (B : Nat) (hB : B ≤ W.heap.size) : EP.Own ((W.alloc o).alloc (.cells #[] 40)) B (.slice (some ⟨W.heap.size + 1, 0, none⟩) 0 0) [] := by
  have := own_lit0 (W.alloc o) B (by simp; omega)
  rw [World.size_alloc] at this
  exact this
set_option maxRecDepth 100000 in
set_option maxHeartbeats 8000000 in
theorem refReply_any (ad : Option Addr) (n cap : Nat) (l : List Pk) (r' k' : Int) (t' : ByteArray) (w : World) (h : RdS w ad n cap l) (hlen : l.length ≤ 1073741824) :
    Calls Try.prog 23 #[.slice ad n cap, .agg #[.int .i64 r', .int .i64 k', .string t']] w fun e w' => ∃ ad' n' c', e = .returned (.slice ad' n' c') ∧ EP.Own w' w.heap.size (.slice ad' n' c') (l ++ [pkA ⟨r', k', t'⟩]) ∧ Below w.heap.size w w' := by
  have H := Lib.hid h
  obtain ⟨W0, hW0⟩ : ∃ W0, Hid (w.alloc (.cells #[.int .i64 r', .int .i64 k', .string t'] 29) = W0) := ⟨_, Lib.hid rfl⟩
  have hB0 : Hid (Below w.heap.size w W0) := by rw [← hW0.out]; exact Lib.hid ((Below.refl _ _).alloc (Nat.le_refl _) _)
  have hb3 : Hid (Blk W0 w.heap.size 29 #[.int .i64 r', .int .i64 k', .string t']) := by rw [← hW0.out]; exact Lib.hid (Blk.new _ _ _)
  have HRd := Lib.hid (h.later hB0.out)
  have hlb : Hid (l.length ≤ 1073741824) := Lib.hid hlen
  have hlb1 : Hid (l.length + 1 ≤ 274877906944) := Lib.hid (by omega)
  have hso := hb3.out.lt
  obtain ⟨d0, d1, d2⟩ := ans_cells hb3.out
  obtain ⟨Wa, hWa⟩ : ∃ Wa, Hid ((W0.alloc (.cells #[] 40)).drew = Wa) := ⟨_, Lib.hid rfl⟩
  have oa : Hid (EP.Own Wa w.heap.size (.slice (some ⟨W0.heap.size, 0, none⟩) 0 0) []) := by rw [← hWa.out]; exact Lib.hid (own_lit0 W0 w.heap.size hB0.out.size).drew
  have ba : Hid (Below W0.heap.size W0 Wa) := by rw [← hWa.out]; exact Lib.hid ((Below.refl W0.heap.size W0).alloc (Nat.le_refl _) _).drew
  have qa : Hid (Blk Wa w.heap.size 29 #[.int .i64 r', .int .i64 k', .string t']) := Lib.hid (hb3.out.below ba.out hb3.out.lt)
  obtain ⟨Wb, hWb⟩ : ∃ Wb, Hid (((W0.alloc (.cells #[] 40)).alloc (.cells #[.bool true, .int .i64 0, .int .i64 0, .string ⟨#[]⟩, .int .i64 0, .int .i64 0, .string ⟨#[]⟩, .string ⟨#[]⟩, .int .i64 r', .int .i64 k', .string t'] 40)).drew = Wb) := ⟨_, Lib.hid rfl⟩
  have ob : Hid (EP.Own Wb w.heap.size (.slice (some ⟨W0.heap.size, 0, none⟩) 0 0) []) := by rw [← hWb.out]; exact Lib.hid ((own_lit0 W0 w.heap.size hB0.out.size).alloc _).drew
  have bb : Hid (Below W0.heap.size W0 Wb) := by rw [← hWb.out]; exact Lib.hid (((Below.refl W0.heap.size W0).alloc (Nat.le_refl _) _).alloc (by simp) _).drew
  have eb : Hid (Blk Wb (W0.heap.size + 1) 40 #[.bool true, .int .i64 0, .int .i64 0, .string ⟨#[]⟩, .int .i64 0, .int .i64 0, .string ⟨#[]⟩, .string ⟨#[]⟩, .int .i64 r', .int .i64 k', .string t']) := by rw [← hWb.out]; exact Lib.hid (blk_new' _ _ _ _ _).drew
  have qb : Hid (Blk Wb w.heap.size 29 #[.int .i64 r', .int .i64 k', .string t']) := Lib.hid (hb3.out.below bb.out hb3.out.lt)
  obtain ⟨Wc, hWc⟩ : ∃ Wc, Hid (((W0.alloc (.cells #[.bool true, .int .i64 0, .int .i64 0, .string ⟨#[]⟩, .int .i64 0, .int .i64 0, .string ⟨#[]⟩, .string ⟨#[]⟩, .int .i64 r', .int .i64 k', .string t'] 40)).alloc (.cells #[] 40)).drew = Wc) := ⟨_, Lib.hid rfl⟩
  have oc : Hid (EP.Own Wc w.heap.size (.slice (some ⟨W0.heap.size + 1, 0, none⟩) 0 0) []) := by rw [← hWc.out]; exact Lib.hid (own_lit1 W0 _ w.heap.size hB0.out.size).drew
  have bc : Hid (Below W0.heap.size W0 Wc) := by rw [← hWc.out]; exact Lib.hid (((Below.refl W0.heap.size W0).alloc (Nat.le_refl _) _).alloc (by simp) _).drew
  have ec : Hid (Blk Wc W0.heap.size 40 #[.bool true, .int .i64 0, .int .i64 0, .string ⟨#[]⟩, .int .i64 0, .int .i64 0, .string ⟨#[]⟩, .string ⟨#[]⟩, .int .i64 r', .int .i64 k', .string t']) := by rw [← hWc.out]; exact Lib.hid ((Blk.new _ _ _).alloc _).drew
  have qc : Hid (Blk Wc w.heap.size 29 #[.int .i64 r', .int .i64 k', .string t']) := Lib.hid (hb3.out.below bc.out hb3.out.lt)
  clear h hlen
  go_enter Try.func23, Try.ntmps23
  go_wp2_with fail
  rw [hW0.out]
  go_region_held_law (fun w' => w'.cell? ⟨w.heap.size, 0, none⟩ = some (.int .i64 r') ∧ w'.cell? ⟨w.heap.size, 1, none⟩ = some (.int .i64 k') ∧ w'.cell? ⟨w.heap.size, 2, none⟩ = some (.string t')) (go_keep) (first | (rw [hWa.out]; refine EP.step_appL rfl _ _ (by rfl) w.heap.size _ [] l Wa (by rfl) oa.out ad n cap (by rfl) H.out.len (HRd.out.later ba.out).rd H.out.nil (by have := hlb.out; simp; omega) (Nat.le_trans hB0.out.size ba.out.size) ?_; intro ad2 n2 c2 w2 h2; rw [List.nil_append] at h2; have hw2 := Lib.hid (h2.out.below oa.out (hB0.out.trans (ba.out.mono hB0.out.size)) (Nat.le_trans hB0.out.size ba.out.size)); have hq := h2.out.upd.blk qa.out (fun e => oa.out.apart qa.out (by decide) e); obtain ⟨g0, g1, g2⟩ := ans_cells hq) | (rw [hWb.out]; refine EP.step_appL rfl _ _ (by rfl) w.heap.size _ [] l Wb (by rfl) ob.out ad n cap (by rfl) H.out.len (HRd.out.later bb.out).rd H.out.nil (by have := hlb.out; simp; omega) (Nat.le_trans hB0.out.size bb.out.size) ?_; intro ad2 n2 c2 w2 h2; rw [List.nil_append] at h2; have hw2 := Lib.hid (h2.out.below ob.out (hB0.out.trans (bb.out.mono hB0.out.size)) (Nat.le_trans hB0.out.size bb.out.size)); have hq := h2.out.upd.blk qb.out (fun e => ob.out.apart qb.out (by decide) e); obtain ⟨g0, g1, g2⟩ := ans_cells hq; have he := h2.out.upd.blk eb.out (by simp [Value.ownBlock])) | (rw [hWc.out]; refine EP.step_appL rfl _ _ (by rfl) w.heap.size _ [] l Wc (by rfl) oc.out ad n cap (by rfl) H.out.len (HRd.out.later bc.out).rd H.out.nil (by have := hlb.out; simp; omega) (Nat.le_trans hB0.out.size bc.out.size) ?_; intro ad2 n2 c2 w2 h2; rw [List.nil_append] at h2; have hw2 := Lib.hid (h2.out.below oc.out (hB0.out.trans (bc.out.mono hB0.out.size)) (Nat.le_trans hB0.out.size bc.out.size)); have hq := h2.out.upd.blk qc.out (fun e => oc.out.apart qc.out (by decide) e); obtain ⟨g0, g1, g2⟩ := ans_cells hq; have he := h2.out.upd.blk ec.out (by simp [Value.ownBlock])) | (refine EP.step_app rfl _ _ (by rfl) w.heap.size _ l [pkA ⟨r', k', t'⟩] (w2.alloc (.cells #[.bool true, .int .i64 0, .int .i64 0, .string ⟨#[]⟩, .int .i64 0, .int .i64 0, .string ⟨#[]⟩, .string ⟨#[]⟩, .int .i64 r', .int .i64 k', .string t'] 40)) (by rfl) (h2.out.own.alloc _) w2.heap.size 1 (by rfl) (by rfl) _ (Blk.new _ _ _) (by rfl) hlb1.out (by have := hw2.out.size; have := hB0.out.size; simp; omega) ?_; intro ad3 n3 c3 w3 h3; have hw3 := Lib.hid (h3.out.below (h2.out.own.alloc _) (hw2.out.alloc (by have := hw2.out.size; have := hB0.out.size; omega) _) (by have := hw2.out.size; have := hB0.out.size; simp; omega)); have hq3 := h3.out.upd.blk (hq.alloc _) (fun e => h2.out.own.apart hq (by decide) e); obtain ⟨i0, i1, i2⟩ := ans_cells hq3) | (refine EP.step_app rfl _ _ (by rfl) w.heap.size _ l [pkA ⟨r', k', t'⟩] w2 (by rfl) h2.out.own _ 1 (by rfl) (by rfl) _ he (by rfl) hlb1.out (by have := hw2.out.size; have := hB0.out.size; omega) ?_; intro ad3 n3 c3 w3 h3; have hw3 := Lib.hid (h3.out.below h2.out.own hw2.out (by have := hw2.out.size; have := hB0.out.size; omega)); have hq3 := h3.out.upd.blk hq (fun e => h2.out.own.apart hq (by decide) e); obtain ⟨i0, i1, i2⟩ := ans_cells hq3))
  all_goals
    go_wp2_with fail
    go_ret
    exact ⟨_, _, _, by simp, h3.out.own, hw3.out⟩
theorem pk_below {w W : World} {b off j : Nat} {pb : Bool} {mr mk ma mm ar ak : Int} {mt mc mp at' : ByteArray} (hb : Below w.heap.size w W) (hlt : b < w.heap.size)
    (h : w.cell? ⟨b, off + j * 11, none⟩ = some (.bool pb) ∧ w.cell? ⟨b, off + j * 11 + 1, none⟩ = some (.int .i64 mr) ∧ w.cell? ⟨b, off + j * 11 + 2, none⟩ = some (.int .i64 mk) ∧ w.cell? ⟨b, off + j * 11 + 3, none⟩ = some (.string mt) ∧ w.cell? ⟨b, off + j * 11 + 4, none⟩ = some (.int .i64 ma) ∧ w.cell? ⟨b, off + j * 11 + 5, none⟩ = some (.int .i64 mm) ∧ w.cell? ⟨b, off + j * 11 + 6, none⟩ = some (.string mc) ∧ w.cell? ⟨b, off + j * 11 + 7, none⟩ = some (.string mp) ∧ w.cell? ⟨b, off + j * 11 + 8, none⟩ = some (.int .i64 ar) ∧ w.cell? ⟨b, off + j * 11 + 9, none⟩ = some (.int .i64 ak) ∧ w.cell? ⟨b, off + j * 11 + 10, none⟩ = some (.string at')) :
    W.cell? ⟨b, off + j * 11, none⟩ = some (.bool pb) ∧ W.cell? ⟨b, off + j * 11 + 1, none⟩ = some (.int .i64 mr) ∧ W.cell? ⟨b, off + j * 11 + 2, none⟩ = some (.int .i64 mk) ∧ W.cell? ⟨b, off + j * 11 + 3, none⟩ = some (.string mt) ∧ W.cell? ⟨b, off + j * 11 + 4, none⟩ = some (.int .i64 ma) ∧ W.cell? ⟨b, off + j * 11 + 5, none⟩ = some (.int .i64 mm) ∧ W.cell? ⟨b, off + j * 11 + 6, none⟩ = some (.string mc) ∧ W.cell? ⟨b, off + j * 11 + 7, none⟩ = some (.string mp) ∧ W.cell? ⟨b, off + j * 11 + 8, none⟩ = some (.int .i64 ar) ∧ W.cell? ⟨b, off + j * 11 + 9, none⟩ = some (.int .i64 ak) ∧ W.cell? ⟨b, off + j * 11 + 10, none⟩ = some (.string at') := by
  obtain ⟨c0, c1, c2, c3, c4, c5, c6, c7, c8, c9, c10⟩ := h
  have k := fun o => hb.cell (p := ⟨b, o, none⟩) hlt
  exact ⟨(k _).trans c0, (k _).trans c1, (k _).trans c2, (k _).trans c3, (k _).trans c4, (k _).trans c5, (k _).trans c6, (k _).trans c7, (k _).trans c8, (k _).trans c9, (k _).trans c10⟩
theorem rd_drop {w W : World} {ad A : Option Addr} {n cap j : Nat} {l : List Pk} (hb : Below w.heap.size w W) (h : RdS w ad n cap l) (hA : (if cap = j + 1 then ad else ad.map (fun a => a.add ((j + 1) * EP.size))) = A) : EP.Rd W W.heap.size A (l.drop (j + 1)) := by
  have h1 := h.later hb
  intro h0
  rw [List.length_drop] at h0
  obtain ⟨b, off, rfl, hlt, hc⟩ := h1.rd (by omega)
  have hl := h.len
  have hle := h.le
  rw [if_neg (by omega), Option.map_some, addr_add0] at hA
  subst hA
  refine ⟨b, off + (j + 1) * EP.size, rfl, hlt, fun i hi k hk => ?_⟩
  rw [List.length_drop] at hi
  have := hc (j + 1 + i) (by omega) k hk
  rw [Nat.add_mul, ← Nat.add_assoc] at this
  rw [this, List.getElem_drop]
set_option maxRecDepth 100000 in
set_option maxHeartbeats 8000000 in
theorem refDouble_yes (ad : Option Addr) (n cap : Nat) (l : List Pk) (p : Pk) (j : Nat) (hj : l[j]? = some p) (w : World) (h : RdS w ad n cap l) (hlen : l.length ≤ 1073741824) :
    Calls Try.prog 25 #[.slice ad n cap, .int .i64 (j : Int)] w fun e w' => ∃ ad' n' c', e = .returned (.tuple #[.slice ad' n' c', .bool true]) ∧ EP.Own w' w.heap.size (.slice ad' n' c') (l ++ [p]) ∧ Below w.heap.size w w' := by
  have H := Lib.hid h
  have HRd := Lib.hid h
  have hjl := (List.getElem?_eq_some_iff.1 hj).1
  have hjn : (j : Int) < (n : Int) := by have := h.len; omega
  have hj0 : ¬ (j : Int) < 0 := by omega
  have hnb : n ≤ 1073741824 := by have := h.len; omega
  have hlb : Hid (l.length ≤ 1073741824) := Lib.hid hlen
  have hlb1 : Hid (l.length + 1 ≤ 274877906944) := Lib.hid (by omega)
  obtain ⟨b, off, rfl, hblt, c0, c1, c2, c3, c4, c5, c6, c7, c8, c9, c10⟩ := rdP h.rd j p hj
  obtain ⟨pb, ⟨mr, mk, mt, ma, mm, mc, mp⟩, ⟨ar, ak, at'⟩⟩ := p
  dsimp only at c0 c1 c2 c3 c4 c5 c6 c7 c8 c9 c10
  have HBL := Lib.hid hblt
  have HC : Hid (w.cell? ⟨b, off + j * 11, none⟩ = some (.bool pb) ∧ w.cell? ⟨b, off + j * 11 + 1, none⟩ = some (.int .i64 mr) ∧ w.cell? ⟨b, off + j * 11 + 2, none⟩ = some (.int .i64 mk) ∧ w.cell? ⟨b, off + j * 11 + 3, none⟩ = some (.string mt) ∧ w.cell? ⟨b, off + j * 11 + 4, none⟩ = some (.int .i64 ma) ∧ w.cell? ⟨b, off + j * 11 + 5, none⟩ = some (.int .i64 mm) ∧ w.cell? ⟨b, off + j * 11 + 6, none⟩ = some (.string mc) ∧ w.cell? ⟨b, off + j * 11 + 7, none⟩ = some (.string mp) ∧ w.cell? ⟨b, off + j * 11 + 8, none⟩ = some (.int .i64 ar) ∧ w.cell? ⟨b, off + j * 11 + 9, none⟩ = some (.int .i64 ak) ∧ w.cell? ⟨b, off + j * 11 + 10, none⟩ = some (.string at')) := Lib.hid ⟨c0, c1, c2, c3, c4, c5, c6, c7, c8, c9, c10⟩
  obtain ⟨Wa, hWa⟩ : ∃ Wa, Hid ((w.alloc (.cells #[] 40)).drew = Wa) := ⟨_, Lib.hid rfl⟩
  have oa : Hid (EP.Own Wa w.heap.size (.slice (some ⟨w.heap.size, 0, none⟩) 0 0) []) := by rw [← hWa.out]; exact Lib.hid (own_lit0 w w.heap.size (Nat.le_refl _)).drew
  have ba : Hid (Below w.heap.size w Wa) := by rw [← hWa.out]; exact Lib.hid ((Below.refl w.heap.size w).alloc (Nat.le_refl _) _).drew
  obtain ⟨Wb, hWb⟩ : ∃ Wb, Hid (((w.alloc (.cells #[] 40)).alloc (.cells #[.bool pb, .int .i64 mr, .int .i64 mk, .string mt, .int .i64 ma, .int .i64 mm, .string mc, .string mp, .int .i64 ar, .int .i64 ak, .string at'] 40)).drew = Wb) := ⟨_, Lib.hid rfl⟩
  have ob : Hid (EP.Own Wb w.heap.size (.slice (some ⟨w.heap.size, 0, none⟩) 0 0) []) := by rw [← hWb.out]; exact Lib.hid ((own_lit0 w w.heap.size (Nat.le_refl _)).alloc _).drew
  have bb : Hid (Below w.heap.size w Wb) := by rw [← hWb.out]; exact Lib.hid (((Below.refl w.heap.size w).alloc (Nat.le_refl _) _).alloc (by simp) _).drew
  have eb : Hid (Blk Wb (w.heap.size + 1) 40 #[.bool pb, .int .i64 mr, .int .i64 mk, .string mt, .int .i64 ma, .int .i64 mm, .string mc, .string mp, .int .i64 ar, .int .i64 ak, .string at']) := by rw [← hWb.out]; exact Lib.hid (blk_new' _ _ _ _ _).drew
  obtain ⟨Wc, hWc⟩ : ∃ Wc, Hid (((w.alloc (.cells #[.bool pb, .int .i64 mr, .int .i64 mk, .string mt, .int .i64 ma, .int .i64 mm, .string mc, .string mp, .int .i64 ar, .int .i64 ak, .string at'] 40)).alloc (.cells #[] 40)).drew = Wc) := ⟨_, Lib.hid rfl⟩
  have oc : Hid (EP.Own Wc w.heap.size (.slice (some ⟨w.heap.size + 1, 0, none⟩) 0 0) []) := by rw [← hWc.out]; exact Lib.hid (own_lit1 w _ w.heap.size (Nat.le_refl _)).drew
  have bc : Hid (Below w.heap.size w Wc) := by rw [← hWc.out]; exact Lib.hid (((Below.refl w.heap.size w).alloc (Nat.le_refl _) _).alloc (by simp) _).drew
  have ec : Hid (Blk Wc w.heap.size 40 #[.bool pb, .int .i64 mr, .int .i64 mk, .string mt, .int .i64 ma, .int .i64 mm, .string mc, .string mp, .int .i64 ar, .int .i64 ak, .string at']) := by rw [← hWc.out]; exact Lib.hid ((Blk.new _ _ _).alloc _).drew
  have HB2 := hide (fun (W : World) (hb : Below w.heap.size w W) => pk_below (W := W) hb HBL.out HC.out)
  clear h hlen hj hjl
  go_enter Try.func25, Try.ntmps25
  go_wp2_with fail
  go_region_held_law (fun w' => w'.cell? ⟨b, off + j * 11, none⟩ = some (.bool pb) ∧ w'.cell? ⟨b, off + j * 11 + 1, none⟩ = some (.int .i64 mr) ∧ w'.cell? ⟨b, off + j * 11 + 2, none⟩ = some (.int .i64 mk) ∧ w'.cell? ⟨b, off + j * 11 + 3, none⟩ = some (.string mt) ∧ w'.cell? ⟨b, off + j * 11 + 4, none⟩ = some (.int .i64 ma) ∧ w'.cell? ⟨b, off + j * 11 + 5, none⟩ = some (.int .i64 mm) ∧ w'.cell? ⟨b, off + j * 11 + 6, none⟩ = some (.string mc) ∧ w'.cell? ⟨b, off + j * 11 + 7, none⟩ = some (.string mp) ∧ w'.cell? ⟨b, off + j * 11 + 8, none⟩ = some (.int .i64 ar) ∧ w'.cell? ⟨b, off + j * 11 + 9, none⟩ = some (.int .i64 ak) ∧ w'.cell? ⟨b, off + j * 11 + 10, none⟩ = some (.string at')) (go_keep) (first | (rw [hWa.out]; refine EP.step_appL rfl _ _ (by rfl) w.heap.size _ [] l Wa (by rfl) oa.out (some ⟨b, off, none⟩) n cap (by rfl) H.out.len (HRd.out.later ba.out).rd H.out.nil (by have := hlb.out; simp; omega) (Nat.le_trans (Nat.le_refl w.heap.size) ba.out.size) ?_; intro ad2 n2 c2 w2 h2; rw [List.nil_append] at h2; have hw2 := Lib.hid (h2.out.below oa.out ((ba.out.mono (Nat.le_refl w.heap.size))) (Nat.le_trans (Nat.le_refl w.heap.size) ba.out.size)); obtain ⟨g0, g1, g2, g3, g4, g5, g6, g7, g8, g9, g10⟩ := unhide HB2 _ hw2.out) | (rw [hWb.out]; refine EP.step_appL rfl _ _ (by rfl) w.heap.size _ [] l Wb (by rfl) ob.out (some ⟨b, off, none⟩) n cap (by rfl) H.out.len (HRd.out.later bb.out).rd H.out.nil (by have := hlb.out; simp; omega) (Nat.le_trans (Nat.le_refl w.heap.size) bb.out.size) ?_; intro ad2 n2 c2 w2 h2; rw [List.nil_append] at h2; have hw2 := Lib.hid (h2.out.below ob.out ((bb.out.mono (Nat.le_refl w.heap.size))) (Nat.le_trans (Nat.le_refl w.heap.size) bb.out.size)); obtain ⟨g0, g1, g2, g3, g4, g5, g6, g7, g8, g9, g10⟩ := unhide HB2 _ hw2.out; have he := h2.out.upd.blk eb.out (by simp [Value.ownBlock])) | (rw [hWc.out]; refine EP.step_appL rfl _ _ (by rfl) w.heap.size _ [] l Wc (by rfl) oc.out (some ⟨b, off, none⟩) n cap (by rfl) H.out.len (HRd.out.later bc.out).rd H.out.nil (by have := hlb.out; simp; omega) (Nat.le_trans (Nat.le_refl w.heap.size) bc.out.size) ?_; intro ad2 n2 c2 w2 h2; rw [List.nil_append] at h2; have hw2 := Lib.hid (h2.out.below oc.out ((bc.out.mono (Nat.le_refl w.heap.size))) (Nat.le_trans (Nat.le_refl w.heap.size) bc.out.size)); obtain ⟨g0, g1, g2, g3, g4, g5, g6, g7, g8, g9, g10⟩ := unhide HB2 _ hw2.out; have he := h2.out.upd.blk ec.out (by simp [Value.ownBlock])) | (refine EP.step_app rfl _ _ (by rfl) w.heap.size _ l [⟨pb, ⟨mr, mk, mt, ma, mm, mc, mp⟩, ⟨ar, ak, at'⟩⟩] (w2.alloc (.cells #[.bool pb, .int .i64 mr, .int .i64 mk, .string mt, .int .i64 ma, .int .i64 mm, .string mc, .string mp, .int .i64 ar, .int .i64 ak, .string at'] 40)) (by rfl) (h2.out.own.alloc _) w2.heap.size 1 (by rfl) (by rfl) _ (Blk.new _ _ _) (by rfl) hlb1.out (by have := hw2.out.size; have := (Nat.le_refl w.heap.size); simp; omega) ?_; intro ad3 n3 c3 w3 h3; have hw3 := Lib.hid (h3.out.below (h2.out.own.alloc _) (hw2.out.alloc (by have := hw2.out.size; have := (Nat.le_refl w.heap.size); omega) _) (by have := hw2.out.size; have := (Nat.le_refl w.heap.size); simp; omega)); obtain ⟨i0, i1, i2, i3, i4, i5, i6, i7, i8, i9, i10⟩ := unhide HB2 _ hw3.out) | (refine EP.step_app rfl _ _ (by rfl) w.heap.size _ l [⟨pb, ⟨mr, mk, mt, ma, mm, mc, mp⟩, ⟨ar, ak, at'⟩⟩] w2 (by rfl) h2.out.own _ 1 (by rfl) (by rfl) _ he (by rfl) hlb1.out (by have := hw2.out.size; have := (Nat.le_refl w.heap.size); omega) ?_; intro ad3 n3 c3 w3 h3; have hw3 := Lib.hid (h3.out.below h2.out.own hw2.out (by have := hw2.out.size; have := (Nat.le_refl w.heap.size); omega)); obtain ⟨i0, i1, i2, i3, i4, i5, i6, i7, i8, i9, i10⟩ := unhide HB2 _ hw3.out))
  all_goals
    go_wp2_with fail
    go_ret2
    exact ⟨_, _, _, by simp, h3.out.own, hw3.out⟩
theorem refDouble_no (ad : Option Addr) (n cap : Nat) (i : Int) (hi : hasB n i = false) (w : World) :
    Calls Try.prog 25 #[.slice ad n cap, .int .i64 i] w fun e w' => e = .returned (.tuple #[.slice ad n cap, .bool false]) ∧ w = w' := by
  by_cases h0 : i < 0
  · clear hi
    go_enter Try.func25, Try.ntmps25
    go_wp2
    go_ret2
    exact ⟨rfl, rfl⟩
  · have h1 : ¬ i < (n : Int) := fun h => by simp [hasB] at hi; omega
    clear hi
    go_enter Try.func25, Try.ntmps25
    go_wp2
    go_ret2
    exact ⟨rfl, rfl⟩
end Go.Proofs.Ytlnhpeghgabnkaa
