/-
  Layer 25: the document's answer: Take.
-/
import Derived.Test.YtlnhpeghgabnkaaRef2
namespace Go.Proofs.Ytlnhpeghgabnkaa
open Go.RowKit
attribute [local go_sem ↓] Go.wp_at_zero Go.wp_at_succ

theorem rd_drew {w : World} {ad : Option Addr} {l : List Pk} (h : EP.Rd w w.heap.size ad l) : EP.Rd w.drew w.drew.heap.size ad l := h.below (B' := w.heap.size) ⟨rfl, rfl, rfl, Nat.le_refl _, fun _ _ => rfl⟩ (Nat.le_refl _)

theorem refTake_no (ad : Option Addr) (n cap : Nat) (i : Int) (hi : hasB n i = false) (w : World) :
    Calls Try.prog 24 #[.slice ad n cap, .int .i64 i] w fun e w' => e = .returned (.tuple #[.slice ad n cap, .agg Pk.zero.cs.toArray, .bool false]) ∧ Below w.heap.size w w' := by
  by_cases h0 : i < 0
  · clear hi
    go_enter Try.func24, Try.ntmps24
    go_wp2
    refine bodyPost_ret (v := .tuple #[.slice ad n cap, .agg Pk.zero.cs.toArray, .bool false]) (by simp only [Pk.zero, Msg.zero, Ans.zero, Pk.cs]; simp [results, Try.f24, go_sem]) rfl ⟨rfl, (Below.refl _ _).alloc (Nat.le_refl _) _⟩
  · have h1 : ¬ i < (n : Int) := fun h => by simp [hasB] at hi; omega
    clear hi
    go_enter Try.func24, Try.ntmps24
    go_wp2
    refine bodyPost_ret (v := .tuple #[.slice ad n cap, .agg Pk.zero.cs.toArray, .bool false]) (by simp only [Pk.zero, Msg.zero, Ans.zero, Pk.cs]; simp [results, Try.f24, go_sem]) rfl ⟨rfl, (Below.refl _ _).alloc (Nat.le_refl _) _⟩
set_option maxRecDepth 100000 in
set_option maxHeartbeats 8000000 in
theorem refTake_yes (ad : Option Addr) (n cap : Nat) (l : List Pk) (p : Pk) (j : Nat) (hj : l[j]? = some p) (w : World) (h : RdS w ad n cap l) (hlen : l.length ≤ 1073741824) :
    Calls Try.prog 24 #[.slice ad n cap, .int .i64 (j : Int)] w fun e w' => ∃ ad' n' c', e = .returned (.tuple #[.slice ad' n' c', .agg p.cs.toArray, .bool true]) ∧ EP.Own w' w.heap.size (.slice ad' n' c') (l.eraseIdx j) ∧ Below w.heap.size w w' := by
  have H := Lib.hid h
  have hjl := (List.getElem?_eq_some_iff.1 hj).1
  have hjn : (j : Int) < (n : Int) := by have := h.len; omega
  have hj0 : ¬ (j : Int) < 0 := by omega
  have hnb : n ≤ 1073741824 := by have := h.len; omega
  have hlb : Hid (l.length ≤ 1073741824) := Lib.hid hlen
  have hle := h.le
  obtain ⟨b, off, rfl, hblt, c0, c1, c2, c3, c4, c5, c6, c7, c8, c9, c10⟩ := rdP h.rd j p hj
  have t1 := fun W => EP.slice_to (some ⟨b, off, none⟩) n cap j (j : Int) rfl (by have := h.len; omega) W
  have t2 := fun W => EP.slice_from (some ⟨b, off, none⟩) n cap (j + 1) (IntKind.i64.wrap ((j : Int) + 1)) (by rw [IntWalk.i64_in _ (by omega)]; omega) (by have := h.len; omega) W
  change ∀ W, (Instr.slice 26 _ _ _ _).run Try.prog W = _ at t1
  change ∀ W, (Instr.slice 26 _ _ _ _).run Try.prog W = _ at t2
  obtain ⟨A2, hA2⟩ : ∃ A : Option Addr, Hid ((if cap = j + 1 then some (⟨b, off, none⟩ : Addr) else (some (⟨b, off, none⟩ : Addr)).map (fun a => a.add ((j + 1) * EP.size))) = A) := ⟨_, Lib.hid rfl⟩
  rw [hA2.out] at t2
  have hA2n : A2 = none → cap - (j + 1) = 0 := fun e => by
    have := hA2.out
    rw [e] at this
    split at this <;> simp at this
  have hR2 := hide (fun (W : World) (hb : Below w.heap.size w W) => rd_drop hb h hA2.out)
  obtain ⟨pb, ⟨mr, mk, mt, ma, mm, mc, mp⟩, ⟨ar, ak, at'⟩⟩ := p
  dsimp only at c0 c1 c2 c3 c4 c5 c6 c7 c8 c9 c10
  have HBL := Lib.hid hblt
  have HA2n := Lib.hid hA2n
  have HC : Hid (w.cell? ⟨b, off + j * 11, none⟩ = some (.bool pb) ∧ w.cell? ⟨b, off + j * 11 + 1, none⟩ = some (.int .i64 mr) ∧ w.cell? ⟨b, off + j * 11 + 2, none⟩ = some (.int .i64 mk) ∧ w.cell? ⟨b, off + j * 11 + 3, none⟩ = some (.string mt) ∧ w.cell? ⟨b, off + j * 11 + 4, none⟩ = some (.int .i64 ma) ∧ w.cell? ⟨b, off + j * 11 + 5, none⟩ = some (.int .i64 mm) ∧ w.cell? ⟨b, off + j * 11 + 6, none⟩ = some (.string mc) ∧ w.cell? ⟨b, off + j * 11 + 7, none⟩ = some (.string mp) ∧ w.cell? ⟨b, off + j * 11 + 8, none⟩ = some (.int .i64 ar) ∧ w.cell? ⟨b, off + j * 11 + 9, none⟩ = some (.int .i64 ak) ∧ w.cell? ⟨b, off + j * 11 + 10, none⟩ = some (.string at')) := Lib.hid ⟨c0, c1, c2, c3, c4, c5, c6, c7, c8, c9, c10⟩
  have HB2 := hide (fun (W : World) (hb : Below w.heap.size w W) => pk_below (W := W) hb HBL.out HC.out)
  obtain ⟨W0, hW0⟩ : ∃ W0, Hid (w.alloc (.cells #[.bool false, .int .i64 0, .int .i64 0, .string ⟨#[]⟩, .int .i64 0, .int .i64 0, .string ⟨#[]⟩, .string ⟨#[]⟩, .int .i64 0, .int .i64 0, .string ⟨#[]⟩] 40) = W0) := ⟨_, Lib.hid rfl⟩
  have hB0 : Hid (Below w.heap.size w W0) := by rw [← hW0.out]; exact Lib.hid ((Below.refl _ _).alloc (Nat.le_refl _) _)
  have hz0 : Hid (Blk W0 w.heap.size 40 #[.bool false, .int .i64 0, .int .i64 0, .string ⟨#[]⟩, .int .i64 0, .int .i64 0, .string ⟨#[]⟩, .string ⟨#[]⟩, .int .i64 0, .int .i64 0, .string ⟨#[]⟩]) := by rw [← hW0.out]; exact Lib.hid (Blk.new _ _ _)
  have hs0 : Hid (W0.heap.size = w.heap.size + 1) := by rw [← hW0.out]; exact Lib.hid (by simp)
  have hst : Hid (EP.Own (W0.alloc (.cells #[] 40)) w.heap.size (.slice (some ⟨w.heap.size + 1, 0, none⟩) 0 0) []) := by
    have := own_lit0 W0 w.heap.size hB0.out.size
    rw [hs0.out] at this
    exact Lib.hid this
  have hB1 : Hid (Below w.heap.size w (W0.alloc (.cells #[] 40))) := Lib.hid (hB0.out.alloc hB0.out.size _)
  have hrd := Lib.hid ((H.out.later hB1.out).rd.take j)
  have hz1 : Hid (Blk (W0.alloc (.cells #[] 40)) w.heap.size 40 #[.bool false, .int .i64 0, .int .i64 0, .string ⟨#[]⟩, .int .i64 0, .int .i64 0, .string ⟨#[]⟩, .string ⟨#[]⟩, .int .i64 0, .int .i64 0, .string ⟨#[]⟩]) := Lib.hid (hz0.out.alloc _)
  have htl : Hid ((l.take j).length = j) := Lib.hid (by rw [List.length_take]; omega)
  have hdl : Hid ((l.drop (j + 1)).length = n - (j + 1)) := Lib.hid (by rw [List.length_drop, h.len])
  have hel : Hid (l.take j ++ l.drop (j + 1) = l.eraseIdx j) := Lib.hid (eraseIdx_split l j).symm
  clear h hlen hj hjl hA2n hblt c0 c1 c2 c3 c4 c5 c6 c7 c8 c9 c10
  go_enter Try.func24, Try.ntmps24
  go_wp2_with (at_builtin; rw [hW0.out]; refine EP.wpList_appL rfl _ _ (by rfl) w.heap.size _ [] (l.take j) _ (by rfl) hst.out (some ⟨b, off, none⟩) j cap (by rfl) htl.out hrd.out (fun e => by cases e) (by have := htl.out; have := hlb.out; simp; omega) (by have := hs0.out; simp; omega) ?_; intro ad2 n2 c2 w2 h2; rw [List.nil_append] at h2; have hB2 := Lib.hid (h2.out.below hst.out hB1.out (by have := hs0.out; simp; omega)); have hz2 := Lib.hid (h2.out.upd.blk hz1.out (fun e => by simp [Value.ownBlock] at e)))
  obtain ⟨g0, g1, g2, g3, g4, g5, g6, g7, g8, g9, g10⟩ := unhide HB2 _ hB2.out
  have hbw2 := Nat.lt_of_lt_of_le HBL.out hB2.out.size
  have hzn : Hid (∀ k, (Value.slice ad2 n2 c2).ownBlock = some k → k ≠ w.heap.size) := Lib.hid fun k hk => by
    rcases h2.out.lies k hk with h | h
    · simp only [Value.ownBlock, Option.some.injEq] at h; omega
    · have := hs0.out; simp at h; omega
  have hlb2 : Hid ((l.take j).length + (l.drop (j + 1)).length ≤ 274877906944) := Lib.hid (by have := hlb.out; rw [List.length_take, List.length_drop]; omega)
  clear hrd hst hz1 hz0
  go_region_law (refine EP.step_appL rfl _ _ (by rfl) w.heap.size _ (l.take j) (l.drop (j + 1)) w2.drew (by simp [Act.eval, Act.put]) h2.out.own.drew A2 (n - (j + 1)) (cap - (j + 1)) (by simp [Act.eval, Act.put]) hdl.out (rd_drew (unhide hR2 w2 hB2.out)) HA2n.out hlb2.out hB2.out.size ?_; intro ad3 n3 c3 w3 h3; rw [hel.out] at h3; have hB3 := Lib.hid (h3.out.below h2.out.own.drew hB2.out.drew hB2.out.size); have hz3 := Lib.hid (h3.out.upd.blk hz2.out.drew (fun e => hzn.out _ e rfl)); obtain ⟨i0, i1, i2, i3, i4, i5, i6, i7, i8, i9, i10⟩ := unhide HB2 _ hB3.out; have hbw3 := Nat.lt_of_lt_of_le HBL.out hB3.out.size; obtain ⟨z0, z1, z2, z3, z4, z5, z6, z7, z8, z9, z10⟩ := pk_cells hz3.out; have zf := fun j => hz3.out.free j)
  all_goals
    go_wp2_with fail
    refine bodyPost_ret (v := .tuple #[.slice ad3 n3 c3, .agg #[.bool pb, .int .i64 mr, .int .i64 mk, .string mt, .int .i64 ma, .int .i64 mm, .string mc, .string mp, .int .i64 ar, .int .i64 ak, .string at'], .bool true]) (by simp [results, Try.f24, go_sem, z0, z1, z2, z3, z4, z5, z6, z7, z8, z9, z10]) rfl ⟨ad3, n3, c3, rfl, ?_, ?_⟩
    · exact h3.out.own.upd (upd_setCells w3 w.heap.size 0 [.bool pb, .int .i64 mr, .int .i64 mk, .string mt, .int .i64 ma, .int .i64 mm, .string mc, .string mp, .int .i64 ar, .int .i64 ak, .string at']) (fun g hg e => by subst e; rcases h3.out.lies _ hg with h | h; exact hzn.out _ h rfl; have := hz2.out.lt; have h9 : w2.heap.size ≤ w.heap.size := h; omega)
    · exact hB3.out.trans ((upd_setCells w3 w.heap.size 0 [.bool pb, .int .i64 mr, .int .i64 mk, .string mt, .int .i64 ma, .int .i64 mm, .string mc, .string mp, .int .i64 ar, .int .i64 ak, .string at']).below w.heap.size hB3.out.size (fun k e => by omega))
end Go.Proofs.Ytlnhpeghgabnkaa
