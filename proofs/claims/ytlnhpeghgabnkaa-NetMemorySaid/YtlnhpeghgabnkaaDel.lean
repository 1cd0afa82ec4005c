/-
  Walks over layer 25: slices.Delete of one packet, slices.Clone, Reply, Len, has.
-/
import Derived.Test.YtlnhpeghgabnkaaSend
import Derived.Lib.SliceRun
import Derived.Deep.QuietTactic
import Derived.BigQuiet
namespace Go.Proofs.Ytlnhpeghgabnkaa
open Go.RowKit
attribute [local go_sem ↓] Go.wp_at_zero Go.wp_at_succ

theorem upd_setCells (w : World) (g o : Nat) (vs : List Value) : Upd (fun k => k = g) w (w.setCells g o vs) := Upd.setCells (S := fun k => k = g) g (fun _ => rfl) vs o w (Upd.refl _ _)
theorem eraseIdx_split {α : Type} (l : List α) (i : Nat) : l.eraseIdx i = l.take i ++ l.drop (i + 1) := List.eraseIdx_eq_take_drop_succ l i
set_option maxRecDepth 100000 in
set_option maxHeartbeats 8000000 in
theorem delete_any (B g n cap i r : Nat) (l : List Pk) (w : World) (h : EP.Own w B (.slice (some ⟨g, 0, none⟩) n cap) l) (hn : n = i + 1 + r) :
    Calls Try.prog 27 #[.slice (some ⟨g, 0, none⟩) n cap, .int .i64 (i : Int), .int .i64 ((i : Int) + 1)] w fun e w' => e = .returned (.slice (some ⟨g, 0, none⟩) (i + r) cap) ∧ EP.Own w' B (.slice (some ⟨g, 0, none⟩) (i + r) cap) (l.eraseIdx i) ∧ Upd (fun k => k = g) w w' := by
  have hl := h.len_eq
  have hsz : EP.size = 11 := rfl
  obtain ⟨news, hnews⟩ : ∃ news, Hid ((l.drop (i + 1)).flatMap EP.cs = news) := ⟨_, Lib.hid rfl⟩
  have hlen : Hid (news.length = r * 11) := by rw [← hnews.out, EP.flat_len, List.length_drop]; exact Lib.hid (by rw [hsz]; congr 1; omega)
  have hcell := fun (W : World) (hW : EP.Own W B (.slice (some ⟨g, 0, none⟩) n cap) l) j (hj : j < n * 11) => (show W.cell? ⟨g, j, none⟩ = (l.flatMap EP.cs)[j]? from World.ownsRow.cellAt (by have := hW; unfold Elt.Own at this; rw [hl.1] at this; exact this) j hj)
  have hfree := fun (W : World) (m : Nat) (xs : List Value) (hW : W.ownsRow B EP.e EP.size (.slice (some ⟨g, 0, none⟩) m cap) m xs) j => (show W.frozen? ⟨g, j, none⟩ = false from World.ownsRow.frozenAt hW j)
  have hrow : w.ownsRow B EP.e EP.size (.slice (some ⟨g, 0, none⟩) n cap) n (l.flatMap EP.cs) := by have := h; unfold Elt.Own at this; rw [hl.1] at this; exact this
  have hflen : (l.flatMap EP.cs).length = n * 11 := by rw [EP.flat_len, hl.1, hsz]
  -- where the rest lies
  obtain ⟨A, hA, hsrc⟩ : ∃ A : Addr, (if cap = i + 1 then some (⟨g, 0, none⟩ : Addr) else (some (⟨g, 0, none⟩ : Addr)).map (fun a => a.add ((i + 1) * EP.size))) = some A ∧ Hid (∀ t u, news[t]? = some u → w.drew.cell? (A.add t) = some u) := by
    by_cases hc : cap = i + 1
    · refine ⟨⟨g, 0, none⟩, by simp [hc], Lib.hid fun t u hu => ?_⟩
      have h0 : news.length = 0 := by rw [hlen.out]; omega
      rw [List.length_eq_zero_iff.1 h0] at hu
      simp at hu
    · refine ⟨⟨g, (i + 1) * 11, none⟩, by rw [if_neg hc, Option.map_some, addr_add0, Nat.zero_add, hsz], Lib.hid fun t u hu => ?_⟩
      have ht : t < r * 11 := by
        have := (List.getElem?_eq_some_iff.1 hu).1
        rwa [hlen.out] at this
      have e : news = (l.flatMap EP.cs).drop ((i + 1) * 11) := by rw [← hnews.out]; exact (EP.flat_drop l (i + 1)).symm
      rw [e, List.getElem?_drop] at hu
      rw [addr_add0]
      exact (hcell w.drew h _ (by omega)).trans hu
  have s1 : Hid (news.length = r * EP.size) := by rw [hsz]; exact hlen
  have s2 : Hid (∀ u ∈ news, u.oneCell' = true) := by rw [← hnews.out]; exact Lib.hid (EP.flat_one _)
  have s3 : Hid (∀ t, t < news.length → (w.drew.cell? ⟨g, 0 + i * EP.size + t, none⟩).isSome = true ∧ w.drew.frozen? ⟨g, 0 + i * EP.size + t, none⟩ = false) := by
    refine Lib.hid fun t ht => ?_
    rw [hlen.out] at ht
    rw [hsz, Nat.zero_add]
    have hb : i * 11 + t < n * 11 := by omega
    refine ⟨?_, hfree w n _ hrow _⟩
    show (w.cell? _).isSome = true
    rw [hcell w h _ hb, List.getElem?_eq_getElem (by omega)]
    rfl
  obtain ⟨W1, hW1⟩ : ∃ W1, Hid (w.drew.setCells g (0 + i * EP.size) news = W1) := ⟨_, Lib.hid rfl⟩
  have hrow1 : W1.ownsRow B EP.e EP.size (.slice (some ⟨g, 0, none⟩) n cap) n (splice (l.flatMap EP.cs) (i * 11) news) := by
    rw [← hW1.out, hsz, Nat.zero_add]
    exact stores_own news _ _ w.drew hrow
  have hs1 : splice (l.flatMap EP.cs) (i * 11) news = (l.eraseIdx i).flatMap EP.cs ++ (l.flatMap EP.cs).drop (i * 11 + news.length) := by
    rw [splice_eq _ _ _ (by rw [hflen, hlen.out]; omega), eraseIdx_split, List.flatMap_append, hnews.out]
    congr 2
    exact EP.flat_take l i
  have hel : (l.eraseIdx i).length = i + r := by rw [List.length_eraseIdx]; rw [if_pos (by omega)]; omega
  have hefl : ((l.eraseIdx i).flatMap EP.cs).length = (i + r) * 11 := by rw [EP.flat_len, hel, hsz]
  have hl1 : (splice (l.flatMap EP.cs) (i * 11) news).length = n * 11 := by rw [hs1, List.length_append, hefl, List.length_drop, hflen, hlen.out]; omega
  have hcl : ∀ ty, (Builtin.clear_ #[26] ty #[.slice (some ⟨g, (i + r) * 11, none⟩) 1 (cap - (i + r))]).run Try.prog W1 = .ok (.tuple #[]) (W1.setCells g ((i + r) * 11) EP.z.cells.toList) := fun ty =>
    EP.run_clear (fun u hu => by
      have : u ∈ Pk.zero.cs := by
        have e : EP.z.cells = Pk.zero.cs.toArray := rfl
        rw [e] at hu
        simpa using hu
      exact EP.one Pk.zero u this) ty W1 g ((i + r) * 11) (cap - (i + r))
      (fun j hj => by
        rw [World.ownsRow.cellAt hrow1 _ (by rw [hsz] at hj ⊢; omega), List.getElem?_eq_getElem (by rw [hl1]; rw [hsz] at hj; omega)]
        rfl)
      (fun j _ => hfree W1 n _ hrow1 _)
  obtain ⟨W2, hW2⟩ : ∃ W2, Hid (W1.setCells g ((i + r) * 11) EP.z.cells.toList = W2) := ⟨_, Lib.hid rfl⟩
  rw [hW2.out] at hcl
  have hrow2 := stores_own EP.z.cells.toList _ ((i + r) * 11) W1 hrow1
  rw [hW2.out, splice_eq _ _ _ (by rw [hl1]; show (i + r) * 11 + 11 ≤ n * 11; omega)] at hrow2
  have hown2 : Hid (EP.Own W2 B (.slice (some ⟨g, 0, none⟩) (i + r) cap) (l.eraseIdx i)) := by
    rcases hrow2.2 with ⟨h1, _⟩ | ⟨g', cap', cur, hv, hb, hg, hc, hx, hs, htk⟩
    · simp at h1
    · simp only [Value.slice.injEq, Option.some.injEq, Addr.mk.injEq, and_true, true_and] at hv
      obtain ⟨rfl, rfl⟩ := hv
      refine Lib.hid ⟨EP.flat_len _, .inr ⟨g, cap, cur, by rw [hel], hb, hg, by omega, hx, hs, ?_⟩⟩
      have h1 : (cur.toList.take (n * EP.size)).take ((i + r) * 11) = (l.eraseIdx i).flatMap EP.cs := by
        rw [htk, List.append_assoc, List.take_left' (by rw [List.length_take, hl1]; omega), hs1, List.take_left' hefl]
      rw [List.take_take, Nat.min_eq_left (by rw [hsz]; omega)] at h1
      rw [hel, hsz]
      exact h1
  have hupd : Hid (Upd (fun k => k = g) w W2) := by
    rw [← hW2.out, ← hW1.out]
    exact Lib.hid (Upd.trans (Upd.trans ((Upd.refl (fun k => k = g) w).drew) (upd_setCells _ _ _ _) (fun _ _ h => h) (fun _ _ h => h)) (upd_setCells _ _ _ _) (fun _ _ h => h) (fun _ _ h => h))
  have t1 := fun W => EP.slice_to (some ⟨g, 0, none⟩) n cap i (i : Int) rfl (by omega) W
  have t2 := fun W => EP.slice_from (some ⟨g, 0, none⟩) n cap (i + 1) ((i : Int) + 1) (by omega) (by omega) W
  rw [hA, show n - (i + 1) = r by omega] at t2
  have t3 := fun W => EP.slice_lhm (some ⟨g, 0, none⟩) n cap i (i + 1) n (i : Int) ((i : Int) + 1) (n : Int) rfl (by omega) rfl (by omega) (by omega) (by omega) W
  have t4 := fun W => EP.slice_lh (some ⟨g, 0, none⟩) (i + r) cap (i + r) n ((i : Int) + (r : Int)) (n : Int) (by omega) rfl (by omega) (by omega) W
  rw [if_neg (by omega), Option.map_some, addr_add0, Nat.zero_add, hsz, show n - (i + r) = 1 by omega] at t4
  obtain ⟨V3, hV3⟩ : ∃ V, Hid (Value.slice (if n = i then some (⟨g, 0, none⟩ : Addr) else Option.map (fun a : Addr => a.add (i * EP.size)) (some ⟨g, 0, none⟩)) (i + 1 - i) (n - i) = V) := ⟨_, Lib.hid rfl⟩
  rw [hV3.out] at t3
  have hne : (((i : Int)) == (i : Int) + 1) = false := beq_eq_false_iff_ne.2 (by omega)
  obtain ⟨i0, hi0, hz0, hz1, hz2⟩ := info_parts (show (Try.prog.info? 40).map (fun i => (i.zero, i.size, i.bytes)) = some (some (.agg Pk.zero.cs.toArray), 11, 120) by kernel_rfl)
  have hroom : i + r ≤ cap := by omega
  change ∀ W, (Instr.slice 26 _ _ _ _).run Try.prog W = _ at t1
  change ∀ W, (Instr.slice 26 _ _ _ _).run Try.prog W = _ at t2
  change ∀ W, (Instr.slice 26 _ _ _ _).run Try.prog W = _ at t3
  change ∀ W, (Instr.slice 26 _ _ _ _).run Try.prog W = _ at t4
  clear h hl hcell hfree hrow hflen hA hrow1 hs1 hel hefl hl1 hrow2 hn hlen hnews hV3 hz0 hz2
  go_enter Try.func27, Try.ntmps27
  go_wp2_with fail
  go_region_law (refine step_append_room rfl _ _ 26 (by rfl) 40 i0 11 Try.underlying26 hi0 hz1 g 0 i cap (by rfl) A r (cap - (i + 1)) news (by rfl) s1.out hsrc.out s2.out hroom s3.out ?_; rw [show w.drew.setCells g (0 + i * 11) news = W1 from hW1.out])
  go_wp2
  go_ret
  exact ⟨rfl, hown2.out, hupd.out⟩
end Go.Proofs.Ytlnhpeghgabnkaa
