/-
  Layer 11: a Table in memory: New, Len, Bytes, Get, Put, Of.
-/
import Derived.Test.YtiffjjophmgdlaaPut
namespace Go.Proofs.Ytiffjjophmgdlaa
open Go.RowKit Tb
attribute [local go_sem ↓] Go.wp_at_zero Go.wp_at_succ

theorem find_mem (k : ByteArray) : ∀ (t : Tr) (o : ByteArray), t.find k = some o → (k, o) ∈ t.ino
  | .nil, _, h => by cases h
  | .node nk nv l r, o, h => by
    unfold Tr.find at h
    simp only [Tr.ino, List.mem_append, List.mem_cons]
    split at h
    · exact .inl (find_mem k l o h)
    · split at h
      · exact .inr (.inr (find_mem k r o h))
      · rename_i h1 h2
        obtain rfl : k = nk := lt_total (by simpa using h1) (by simpa using h2)
        cases h
        exact .inr (.inl rfl)
theorem bts_mem {l : List Rw} {r : Rw} (h : r ∈ l) : r.1.size + r.2.size ≤ bts l := by
  induction l with
  | nil => cases h
  | cons a l ih =>
    rw [bts_cons]
    rcases List.mem_cons.1 h with rfl | h
    · omega
    · have := ih h; omega
/-- A Table. -/
structure TblAt (w : World) (b : Nat) (t : Tr) : Prop where
  at_ : ∃ p, Blk w b 51 #[.pointer p, .int .i64 (bts t.ino : Int)] ∧ At w t p
  sorted : Sorted t.ino
theorem At_upd {w w' : World} {b : Nat} {cs : Array Value} (hu : Upd (fun k => k = b) w w') (hb : Blk w b 51 cs) : ∀ {t : Tr} {p : Option Addr}, At w t p → At w' t p
  | .nil, _, h => h
  | .node _ _ _ _, _, ⟨g, pl, pr, e, h1, h2, h3⟩ => ⟨g, pl, pr, e, hu.blk h1 (fun e => by subst e; exact absurd (h1.type_eq hb).1 (by decide)), At_upd hu hb h2, At_upd hu hb h3⟩
theorem TblAt.below {w w' : World} {b : Nat} {t : Tr} (h : TblAt w b t) (hb : Below w.heap.size w w') : TblAt w' b t := by
  obtain ⟨p, h1, h2⟩ := h.at_
  exact ⟨⟨p, h1.below hb h1.lt, At_below hb h2⟩, h.sorted⟩
theorem TblAt.lt {w : World} {b : Nat} {t : Tr} (h : TblAt w b t) : b < w.heap.size := by
  obtain ⟨p, h1, h2⟩ := h.at_
  exact h1.lt
/-- How long texts may be. -/
def Sz (l : List Rw) : Prop := ∀ r ∈ l, r.1.size ≤ 140737488355328 ∧ r.2.size ≤ 140737488355328
theorem sz_put {t : Tr} {k v : ByteArray} (hs : Sorted t.ino) (h : Sz t.ino) (hk : k.size ≤ 140737488355328) (hv : v.size ≤ 140737488355328) : Sz (t.put k v).ino := fun r hr => by
  rw [put_ino k v t hs] at hr
  rcases rput_mem hr with rfl | hr
  · exact ⟨hk, hv⟩
  · exact h r hr
theorem TblAt.put {w : World} {b : Nat} {t : Tr} (h : TblAt w b t) (k v : ByteArray) : Sorted (t.put k v).ino := by
  rw [put_ino k v t h.sorted]
  exact sorted_rput h.sorted k v
theorem new_tbl (w : World) : Calls Try.prog 18 #[] w fun e w' => e = .returned (.pointer (some ⟨w.heap.size, 0, none⟩)) ∧ TblAt w' w.heap.size .nil ∧ Below w.heap.size w w' := by
  go_enter Try.func18, Try.ntmps18
  go_wp2
  go_ret
  exact ⟨rfl, ⟨⟨none, Blk.new _ _ _, rfl⟩, List.Pairwise.nil⟩, (Below.refl _ _).alloc (Nat.le_refl _) _⟩
theorem len_tbl (b : Nat) (t : Tr) (w : World) (h : TblAt w b t) : Calls Try.prog 10 #[.pointer (some ⟨b, 0, none⟩)] w fun e w' => e = .returned (.int .i64 (t.cnt : Int)) ∧ w = w' := by
  obtain ⟨p, h1, h2⟩ := h.at_
  have c0 : w.cell? ⟨b, 0, none⟩ = some (.pointer p) := h1.at_ 0
  have H2 := Lib.hid h2
  clear h h1 h2
  go_enter Try.func10, Try.ntmps10
  go_wp2_with fail
  refine (count_any t p w H2.out).mono ?_
  rintro e w' ⟨rfl, rfl⟩
  go_wp2_with fail
  go_ret
  exact ⟨rfl, rfl⟩
theorem bytes_tbl (b : Nat) (t : Tr) (w : World) (h : TblAt w b t) : Calls Try.prog 16 #[.pointer (some ⟨b, 0, none⟩)] w fun e w' => e = .returned (.int .i64 (bts t.ino : Int)) ∧ w = w' := by
  obtain ⟨p, h1, h2⟩ := h.at_
  have c0 : w.cell? ⟨b, 1, none⟩ = some (.int .i64 (bts t.ino : Int)) := h1.at_ 1
  generalize bts t.ino = n at c0 ⊢
  clear h h1 h2
  go_enter Try.func16, Try.ntmps16
  go_wp2_with fail
  go_ret
  exact ⟨rfl, rfl⟩
theorem get_tbl (b : Nat) (t : Tr) (key : ByteArray) (w : World) (h : TblAt w b t) : Calls Try.prog 15 #[.pointer (some ⟨b, 0, none⟩), .string key] w fun e w' => e = .returned (foundV (t.find key)) ∧ w = w' := by
  obtain ⟨p, h1, h2⟩ := h.at_
  have c0 : w.cell? ⟨b, 0, none⟩ = some (.pointer p) := h1.at_ 0
  have H2 := Lib.hid h2
  obtain ⟨o, ho⟩ : ∃ o, Hid (t.find key = o) := ⟨_, Lib.hid rfl⟩
  rw [ho.out]
  clear h h1 h2
  go_enter Try.func15, Try.ntmps15
  go_wp2_with fail
  refine (get_any t p key w H2.out).mono ?_
  rintro e w' ⟨rfl, rfl⟩
  rw [ho.out]
  unfold foundV
  go_wp2_with fail
  go_ret2
  exact ⟨rfl, rfl⟩
theorem upd1 (w : World) (b o : Nat) (v : Value) : Upd (fun k => k = b) w (w.setCell ⟨b, o, none⟩ v) := (Upd.refl _ _).setCell _ _ fun _ => rfl
set_option maxRecDepth 100000 in
set_option maxHeartbeats 4000000 in
theorem put_tbl (b : Nat) (t : Tr) (key val : ByteArray) (w : World) (h : TblAt w b t) (hs : Sz t.ino) (hc : t.cnt ≤ 20001) (hk : key.size ≤ 140737488355328) (hv : val.size ≤ 140737488355328) :
    Calls Try.prog 19 #[.pointer (some ⟨b, 0, none⟩), .string key, .string val] w fun e w' => e = .returned (.bool (t.find key).isSome) ∧ TblAt w' b (t.put key val) ∧ Upd (fun k => k = b) w w' := by
  have hb1 := bts_put key val t h.sorted
  have hb2 := bts_le t.ino 140737488355328 hs
  rw [← cnt_eq] at hb2
  have hb3 : bts t.ino ≤ 5629781046902784000 := Nat.le_trans hb2 (Nat.le_trans (Nat.mul_le_mul_right _ hc) (by decide))
  have hso := Lib.hid h.sorted
  have hso2 := Lib.hid (h.put key val)
  obtain ⟨p, h1, h2⟩ := h.at_
  have H2 := Lib.hid h2
  have HB := Lib.hid h1
  have hblt := h1.lt
  have HC : Hid (t.cnt + 2 ≤ 1099511627776) := Lib.hid (by omega)
  obtain ⟨n0, hn0⟩ : ∃ n0, Hid (bts t.ino = n0) := ⟨_, Lib.hid rfl⟩
  obtain ⟨n1, hn1⟩ : ∃ n1, Hid (bts (t.put key val).ino = n1) := ⟨_, Lib.hid rfl⟩
  rw [hn0.out] at hb1 hb3 HB
  rw [hn1.out] at hb1
  have c0 : w.cell? ⟨b, 0, none⟩ = some (.pointer p) := HB.out.at_ 0
  have c1 : w.cell? ⟨b, 1, none⟩ = some (.int .i64 (n0 : Int)) := HB.out.at_ 1
  have f0 := HB.out.free 0
  have f1 := HB.out.free 1
  cases hf : t.find key with
  | none =>
    rw [hf] at hb1
    have hb4 : Hid (n1 = n0 + key.size + val.size) := Lib.hid (by simp only [oldB] at hb1; omega)
    have hF := Lib.hid hf
    clear h h1 h2 hb1 hb2 hf hs hc
    go_enter Try.func19, Try.ntmps19
    go_wp2_with fail
    refine (get_any t p key w H2.out).mono ?_
    rintro e w' ⟨rfl, rfl⟩
    rw [hF.out]
    simp only [foundV, Option.getD_none, Option.isSome_none]
    go_wp2_with fail
    have e1 : (n0 : Int) + ((key.size : Int) + (val.size : Int)) = (n1 : Int) := by rw [hb4.out]; push_cast; omega
    rw [e1]
    refine (put_any key val t p _ (At_upd (upd1 w b 1 (.int .i64 (n1 : Int))) HB.out H2.out) HC.out).mono ?_
    rintro e w3 ⟨p3, rfl, hp3, hb3⟩
    have HB3 := Lib.hid ((HB.out.set (j := 1) (.int .i64 (n1 : Int))).below (cs := #[.pointer p, .int .i64 (n1 : Int)]) hb3 (HB.out.set (j := 1) (.int .i64 (n1 : Int))).lt)
    have H3 := Lib.hid hp3
    have HU := Lib.hid ((upd1 w b 1 (.int .i64 (n1 : Int))).trans (Upd.of_below hb3) (fun _ _ h => h) (fun _ _ h => h.elim))
    have d0 : w3.cell? ⟨b, 0, none⟩ = some (.pointer p) := HB3.out.at_ 0
    have g0 := HB3.out.free 0
    clear hp3 hb3
    go_wp2_with fail
    go_ret
    refine ⟨rfl, ⟨⟨p3, ?_, At_upd (upd1 w3 b 0 (.pointer p3)) HB3.out H3.out⟩, hso2.out⟩, HU.out.trans (upd1 w3 b 0 (.pointer p3)) (fun _ _ h => h) (fun _ _ h => h)⟩
    rw [hn1.out]
    exact HB3.out.set (j := 0) (.pointer p3)
  | some o =>
    have hm := find_mem key t o hf
    have hb5 := bts_mem hm
    have hb6 := (hs _ hm).2
    rw [hf] at hb1
    rw [hn0.out] at hb5
    dsimp only at hb5
    have hb4 : Hid (n1 = n0 - (key.size + o.size) + (key.size + val.size)) := Lib.hid (by simp only [oldB] at hb1; omega)
    have hb7 : Hid (key.size + o.size ≤ n0) := Lib.hid hb5
    have hF := Lib.hid hf
    clear h h1 h2 hb1 hb2 hf hs hc hm
    go_enter Try.func19, Try.ntmps19
    go_wp2_with fail
    refine (get_any t p key w H2.out).mono ?_
    rintro e w' ⟨rfl, rfl⟩
    rw [hF.out]
    simp only [foundV, Option.getD_some, Option.isSome_some]
    go_wp2_with fail
    have e1 : (n0 : Int) - ((key.size : Int) + (o.size : Int)) + ((key.size : Int) + (val.size : Int)) = (n1 : Int) := by have h4 := hb4.out; have h7 := hb7.out; omega
    rw [e1]
    obtain ⟨m1, hm1⟩ : ∃ m1, Hid ((n0 : Int) - ((key.size : Int) + (o.size : Int)) = m1) := ⟨_, Lib.hid rfl⟩
    rw [hm1.out]
    have HU0 := Lib.hid ((upd1 w b 1 (.int .i64 m1)).trans (upd1 _ b 1 (.int .i64 (n1 : Int))) (S'' := fun k => k = b) (fun _ _ h => h) (fun _ _ h => h))
    have HB0 : Hid (Blk ((w.setCell ⟨b, 1, none⟩ (.int .i64 m1)).setCell ⟨b, 1, none⟩ (.int .i64 (n1 : Int))) b 51 #[.pointer p, .int .i64 (n1 : Int)]) := Lib.hid ((HB.out.set (j := 1) (.int .i64 m1)).set (j := 1) (.int .i64 (n1 : Int)))
    refine (put_any key val t p _ (At_upd HU0.out HB.out H2.out) HC.out).mono ?_
    rintro e w3 ⟨p3, rfl, hp3, hb3⟩
    have HB3 := Lib.hid (HB0.out.below hb3 HB0.out.lt)
    have H3 := Lib.hid hp3
    have HU := Lib.hid (HU0.out.trans (S'' := fun k => k = b) (Upd.of_below hb3) (fun _ _ h => h) (fun _ _ h => h.elim))
    have d0 : w3.cell? ⟨b, 0, none⟩ = some (.pointer p) := HB3.out.at_ 0
    have g0 := HB3.out.free 0
    clear hp3 hb3
    go_wp2_with fail
    go_ret
    refine ⟨rfl, ⟨⟨p3, ?_, At_upd (upd1 w3 b 0 (.pointer p3)) HB3.out H3.out⟩, hso2.out⟩, HU.out.trans (upd1 w3 b 0 (.pointer p3)) (fun _ _ h => h) (fun _ _ h => h)⟩
    rw [hn1.out]
    exact HB3.out.set (j := 0) (.pointer p3)
end Go.Proofs.Ytiffjjophmgdlaa
