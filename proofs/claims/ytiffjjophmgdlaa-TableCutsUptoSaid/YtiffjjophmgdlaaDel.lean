/-
  Layer 11: Delete, Clone.
-/
import Derived.Test.YtiffjjophmgdlaaRem
namespace Go.Proofs.Ytiffjjophmgdlaa
open Go.RowKit Tb
attribute [local go_sem ↓] Go.wp_at_zero Go.wp_at_succ

/-- The tree without a key, if it has it. -/
def dele (t : Tr) (k : ByteArray) : Tr := if (t.find k).isSome then t.rem k else t
theorem dele_none {t : Tr} {k : ByteArray} (h : t.find k = none) : dele t k = t := by unfold dele; rw [h]; rfl
theorem dele_some {t : Tr} {k o : ByteArray} (h : t.find k = some o) : dele t k = t.rem k := by unfold dele; rw [h]; rfl
theorem dele_cnt (t : Tr) (k : ByteArray) : (dele t k).cnt ≤ t.cnt := by
  unfold dele
  split
  · exact rem_cnt t k
  · exact Nat.le_refl _
theorem sz_dele {t : Tr} {k : ByteArray} (hs : Sorted t.ino) (h : Sz t.ino) : Sz (dele t k).ino := fun r hr => by
  unfold dele at hr
  split at hr
  · rename_i hf
    rw [rem_ino t k hs hf] at hr
    exact h r (del_mem hr).1
  · exact h r hr
set_option maxRecDepth 100000 in
set_option maxHeartbeats 4000000 in
theorem delete_tbl (b : Nat) (t : Tr) (key : ByteArray) (w : World) (h : TblAt w b t) (hs : Sz t.ino) (hc : t.cnt ≤ 20001) :
    Calls Try.prog 31 #[.pointer (some ⟨b, 0, none⟩), .string key] w fun e w' => e = .returned (.bool (t.find key).isSome) ∧ TblAt w' b (dele t key) ∧ Upd (fun k => k = b) w w' := by
  have hb2 := bts_le t.ino 140737488355328 hs
  rw [← cnt_eq] at hb2
  have hb3 : bts t.ino ≤ 5629781046902784000 := Nat.le_trans hb2 (Nat.le_trans (Nat.mul_le_mul_right _ hc) (by decide))
  have hso := Lib.hid h.sorted
  obtain ⟨p, h1, h2⟩ := h.at_
  have H2 := Lib.hid h2
  have HB := Lib.hid h1
  have HT := Lib.hid h
  have hblt := h1.lt
  have HC : Hid (t.cnt ≤ 1099511627776) := Lib.hid (by omega)
  obtain ⟨n0, hn0⟩ : ∃ n0, Hid (bts t.ino = n0) := ⟨_, Lib.hid rfl⟩
  rw [hn0.out] at hb3 HB
  have c0 : w.cell? ⟨b, 0, none⟩ = some (.pointer p) := HB.out.at_ 0
  have c1 : w.cell? ⟨b, 1, none⟩ = some (.int .i64 (n0 : Int)) := HB.out.at_ 1
  have f0 := HB.out.free 0
  have f1 := HB.out.free 1
  cases hf : t.find key with
  | none =>
    have hF := Lib.hid hf
    rw [dele_none hf]
    clear h h1 h2 hb2 hf hs hc
    go_enter Try.func31, Try.ntmps31
    go_wp2_with fail
    refine (get_any t p key w H2.out).mono ?_
    rintro e w' ⟨rfl, rfl⟩
    rw [hF.out]
    simp only [foundV, Option.getD_none, Option.isSome_none]
    go_wp2_with fail
    go_ret
    exact ⟨rfl, HT.out, Upd.refl _ _⟩
  | some o =>
    have hm := find_mem key t o hf
    have hb1 := bts_del hso.out hm
    have hino := rem_ino t key hso.out (by rw [hf]; rfl)
    rw [← hino] at hb1
    obtain ⟨n1, hn1⟩ : ∃ n1, Hid (bts (t.rem key).ino = n1) := ⟨_, Lib.hid rfl⟩
    rw [hn0.out, hn1.out] at hb1
    have hb6 := (hs _ hm).1
    have hb7 := (hs _ hm).2
    dsimp only at hb6 hb7
    have hso2 : Hid (Sorted (t.rem key).ino) := Lib.hid (by rw [hino]; exact sorted_del hso.out key)
    have hb4 : Hid (n1 + (key.size + o.size) = n0) := Lib.hid hb1
    have hfs : Hid ((t.find key).isSome = true) := Lib.hid (by rw [hf]; rfl)
    have hF := Lib.hid hf
    rw [dele_some hf]
    clear h h1 h2 hb1 hb2 hf hs hc hm hino
    have hk0 : key.size + o.size ≤ n0 := by have := hb4.out; omega
    go_enter Try.func31, Try.ntmps31
    go_wp2_with fail
    refine (get_any t p key w H2.out).mono ?_
    rintro e w' ⟨rfl, rfl⟩
    rw [hF.out]
    simp only [foundV, Option.getD_some, Option.isSome_some]
    go_wp2_with fail
    have e1 : (n0 : Int) - ((key.size : Int) + (o.size : Int)) = (n1 : Int) := by have h4 := hb4.out; omega
    rw [e1]
    have HU0 := Lib.hid (upd1 w b 1 (.int .i64 (n1 : Int)))
    have HB0 : Hid (Blk (w.setCell ⟨b, 1, none⟩ (.int .i64 (n1 : Int))) b 51 #[.pointer p, .int .i64 (n1 : Int)]) := Lib.hid (HB.out.set (j := 1) (.int .i64 (n1 : Int)))
    refine (rem_any t key p _ (At_upd HU0.out HB.out H2.out) hso.out hfs.out HC.out).mono ?_
    rintro e w3 ⟨p3, rfl, hp3, hb3⟩
    have HB3 := Lib.hid (HB0.out.below hb3 HB0.out.lt)
    have H3 := Lib.hid hp3
    have HU := Lib.hid (HU0.out.trans (S'' := fun k => k = b) (Upd.of_below hb3) (fun _ _ h => h) (fun _ _ h => h.elim))
    have d0 : w3.cell? ⟨b, 0, none⟩ = some (.pointer p) := HB3.out.at_ 0
    have g0 := HB3.out.free 0
    clear hp3 hb3
    go_wp2_with fail
    go_ret
    refine ⟨rfl, ⟨⟨p3, ?_, At_upd (upd1 w3 b 0 (.pointer p3)) HB3.out H3.out⟩, hso2.out⟩, HU.out.trans (upd1 w3 b 0 (.pointer p3)) (fun _ _ h => h) (fun _ _ h => h)⟩
    rw [hn1.out]
    exact HB3.out.set (j := 0) (.pointer p3)
set_option maxHeartbeats 2000000 in
theorem clone_tbl (b : Nat) (t : Tr) (w : World) (h : TblAt w b t) : Calls Try.prog 30 #[.pointer (some ⟨b, 0, none⟩)] w fun e w' => ∃ b', e = .returned (.pointer (some ⟨b', 0, none⟩)) ∧ w.heap.size ≤ b' ∧ TblAt w' b' t ∧ Below w.heap.size w w' := by
  obtain ⟨p, h1, h2⟩ := h.at_
  have hso := Lib.hid h.sorted
  have H2 := Lib.hid h2
  obtain ⟨n0, hn0⟩ : ∃ n0, Hid (bts t.ino = n0) := ⟨_, Lib.hid rfl⟩
  have hblt := h1.lt
  rw [hn0.out] at h1
  have c0 : w.cell? ⟨b, 0, none⟩ = some (.pointer p) := h1.at_ 0
  have c1 : w.cell? ⟨b, 1, none⟩ = some (.int .i64 (n0 : Int)) := h1.at_ 1
  clear h h1 h2
  go_enter Try.func30, Try.ntmps30
  go_wp2
  go_ret
  refine ⟨_, rfl, Nat.le_refl _, ⟨⟨p, ?_, At_below ((Below.refl _ _).alloc (Nat.le_refl _) _) H2.out⟩, hso.out⟩, (Below.refl _ _).alloc (Nat.le_refl _) _⟩
  rw [hn0.out]
  exact Blk.new _ _ _
end Go.Proofs.Ytiffjjophmgdlaa
