/-
  Walks over layer 7: Seal.
-/
import Derived.Test.YtffmekcpkilkoaaDoorPlain
import Derived.Test.YtffmekcpkilkoaaDoorEnds
import Derived.Test.YtffmekcpkilkoaaDoorCrcWalk
import Derived.Lib.LazyBuf
import Derived.Lib.SlBuf
import Derived.Deep.OwnRows
import Derived.StillTailTactics
namespace Go.Proofs.YtffmekcpkilkoaaDoor
open Go.RowKit

theorem BytesAt.drewN {w : World} {g : Nat} {l : List UInt8} (h : BytesAt w g l) (n : Nat) : BytesAt (w.drewN n) g l := ⟨h.cell, h.free⟩
theorem BytesAt.drew {w : World} {g : Nat} {l : List UInt8} (h : BytesAt w g l) : BytesAt w.drew g l := ⟨h.cell, h.free⟩
theorem BytesAt.setCells {g : Nat} : ∀ (m : List UInt8) (off : Nat) (l : List UInt8) (w : World), BytesAt w g l → off + m.length ≤ l.length →
    BytesAt (w.setCells g off (m.map fun x => Value.int .u8 (x.toNat : Int))) g (l.take off ++ m ++ l.drop (off + m.length))
  | [], off, l, w, h, hl => by simpa [World.setCells] using h
  | c :: m, off, l, w, h, hl => by
    simp only [List.length_cons] at hl
    have h1 := h.set off (by omega) c
    have h2 := BytesAt.setCells m (off + 1) _ _ h1 (by simp; omega)
    have e : (l.set off c).take (off + 1) ++ m ++ (l.set off c).drop (off + 1 + m.length) = l.take off ++ (c :: m) ++ l.drop (off + (c :: m).length) := by
      rw [List.take_set, List.drop_set_of_lt (by omega), List.set_eq_take_append_cons_drop, if_pos (by simp; omega)]
      simp [List.take_take, Nat.add_assoc, Nat.add_comm 1]
    rw [e] at h2
    exact h2
theorem below_setCells' {B b : Nat} {a : World} (hb : B ≤ b) (vs : List Value) (o : Nat) (w : World) (h : Below B a w) : Below B a (w.setCells b o vs) := Go.below_setCells hb vs o w h
theorem conv_bytes (w : World) (g cap n : Nat) (l : List UInt8) (h : BytesAt w g l) (hn : n ≤ l.length) :
    (convert 50 9 (.slice (some ⟨g, 0, none⟩) n cap)).run Tryd.prog w = .ok (.string ⟨(l.take n).toArray⟩) w := by
  have hlen : (l.take n).length = n := by simp; omega
  have := run_convert_bytes_back (P := Tryd.prog) w 50 9 5 ⟨g, 0, none⟩ cap (l.take n) Tryd.underlying50 Tryd.underlying5 Tryd.underlying9 (fun j hj => by
    have hj' : j < l.length := by rw [hlen] at hj; omega
    have := h.cell j hj'
    rw [List.getElem_take]
    have e : (Addr.add ⟨g, 0, none⟩ j) = ⟨g, j, none⟩ := by unfold Addr.add; split <;> simp_all
    rw [e]
    exact this)
  rw [hlen] at this
  exact this
theorem bytesAt_made (w : World) (n : Nat) (e : TypeId) : BytesAt (w.alloc (.cells (madeCells #[.int .u8 0] n) e)) w.heap.size (List.replicate n 0) := by
  refine ⟨fun j hj => ?_, fun j _ => ?_⟩
  · have hj' : j < n := by simpa using hj
    have := World.cell?_alloc_at (w := w) (madeCells #[.int .u8 0] n) e w.heap.size j rfl
    rw [this]
    simp [madeCells, hj', Nat.mod_one]
  · rw [World.frozen?_alloc_at _ _ _ _ rfl]
theorem rep_drop (n k : Nat) : (List.replicate n (0 : UInt8)).drop k = List.replicate (n - k) 0 := List.drop_replicate ..
theorem drop_left_add {a b : List UInt8} {n k : Nat} (h : a.length = n) : (a ++ b).drop (n + k) = b.drop k := by subst h; rw [List.drop_append, List.drop_of_length_le (by omega), List.nil_append, Nat.add_sub_cancel_left]
theorem take_left {a b : List UInt8} {n : Nat} (h : a.length = n) : (a ++ b).take n = a := by subst h; exact List.take_left' rfl
/-- The sector behind the copy. -/
theorem seal_mid (stamp : Nat) (p : List UInt8) (hp : p.length ≤ 234) :
    (putL (putL (List.replicate 256 0) 0 stamp 8) 8 p.length 2).take 10 ++ p ++ (putL (putL (List.replicate 256 0) 0 stamp 8) 8 p.length 2).drop (10 + p.length) = headL stamp p ++ List.replicate 12 0 := by
  rw [putL_eq (putL (List.replicate 256 0) 0 stamp 8) 8 p.length 2 (by rw [putL_length, List.length_replicate]; omega), putL_eq (List.replicate 256 0) 0 stamp 8 (by rw [List.length_replicate]; omega)]
  rw [List.take_zero, List.nil_append, rep_drop, take_left (lowL_length stamp 8), drop_left_add (lowL_length stamp 8), rep_drop]
  have hl : (lowL stamp 8 ++ lowL p.length 2).length = 10 := by rw [List.length_append, lowL_length, lowL_length]
  rw [take_left hl, drop_left_add hl, rep_drop]
  have e : 256 - (0 + 8) - 2 - p.length = (234 - p.length) + 12 := by omega
  rw [e, ← List.replicate_append_replicate]
  unfold headL
  simp only [List.append_assoc]
theorem seal_end (stamp : Nat) (p : List UInt8) (hp : p.length ≤ 234) :
    putL (putL (headL stamp p ++ List.replicate 12 0) 244 (Crc.sum (headL stamp p)).toNat 4) 248 stamp 8 = sealL stamp p := by
  have h := headL_length stamp p hp
  have h2 : (headL stamp p ++ List.replicate 12 (0 : UInt8)).length = 256 := by rw [List.length_append, h, List.length_replicate]
  rw [putL_eq (putL (headL stamp p ++ List.replicate 12 0) 244 _ 4) 248 stamp 8 (by rw [putL_length, h2]; omega), putL_eq (headL stamp p ++ List.replicate 12 0) 244 _ 4 (by rw [h2]; omega)]
  rw [take_left h, drop_left_add h, rep_drop]
  have hl : (headL stamp p ++ lowL (Crc.sum (headL stamp p)).toNat 4).length = 248 := by rw [List.length_append, h, lowL_length]
  rw [take_left hl, drop_left_add hl, rep_drop]
  unfold sealL
  simp

theorem sum_head (stamp : Nat) (p : List UInt8) (hp : p.length ≤ 234) (w : World) (hN : Nibs w) :
    Calls Tryd.prog 23 #[.string ⟨(headL stamp p).toArray⟩] w fun e w' => e = .returned (.int .u32 (((Crc.sum (headL stamp p)).toNat : Nat) : Int)) ∧ w = w' :=
  sum_any ⟨(headL stamp p).toArray⟩ (by show (headL stamp p).toArray.size ≤ maxLen; rw [List.size_toArray, headL_length stamp p hp]; decide) w hN
theorem sum_head' (stamp : Nat) (p : List UInt8) (hp : p.length ≤ 234) (w : World) (hN : Nibs w) :
    Calls Tryd.prog 23 #[.string ⟨(headL stamp p).toArray⟩] w fun e w' => e = .returned (.int .u32 (((Crc.sum (headL stamp p)).toNat : Nat) : Int)) ∧ w' = w :=
  (sum_head stamp p hp w hN).mono fun _ _ ⟨a, b⟩ => ⟨a, b.symm⟩
theorem hide {p : Prop} (h : p) : Hid p := h
theorem unhide {p : Prop} (h : Hid p) : p := h
set_option maxRecDepth 100000 in
set_option maxHeartbeats 1000000 in
theorem seal_yes (stamp : Nat) (hs : stamp < 18446744073709551616) (hs0 : 0 < stamp) (s : ByteArray) (p : List UInt8) (hl : s.data.toList = p) (hp : s.size ≤ 234) (w : World) (hN : Nibs w) (hgN : 37 < w.heap.size) :
    Calls Tryd.prog 9 #[.int .u64 stamp, .string s] w fun e w' => e = .returned (.tuple #[.string ⟨(sealL stamp p).toArray⟩, .nilIface]) ∧ Below w.heap.size w w' := by
  have hsz : s.size = p.length := by rw [← hl]; simp
  have HL := Lib.hid hl
  have HS := Lib.hid hsz
  have HN := Lib.hid hN
  have h1 : ((stamp : Int) == 0) = false := beq_eq_false_iff_ne.2 (by omega)
  have h2 : ¬ (234 : Int) < (s.size : Int) := by omega
  have hmk : ∀ W : World, (Instr.makeSlice 50 (.int .i64 256) (.int .i64 256)).run Tryd.prog W = .ok (.slice (some ⟨W.heap.size, 0, none⟩) 256 256) (W.alloc (.cells (madeCells #[.int .u8 0] 256) 5)) :=
    fun W => run_make_row' (P := Tryd.prog) 50 5 (.int .u8 0) 1 Tryd.underlying50 (by kernel_rfl) rfl .i64 .i64 256 (by omega) (by omega) W
  clear hl hsz hN
  go_enter Tryd.func9, Tryd.ntmps9
  go_wp2_with fail
  refine (put_any w.heap.size 0 256 256 stamp 8 (Nat.le_refl _) hs (by omega) (List.replicate 256 0) (by rw [List.length_replicate]; omega) _ (bytesAt_made w 256 _)).mono ?_
  rintro e w1 ⟨rfl, hb1, hB1⟩
  have hB1' := Lib.hid hB1
  have hb1' := Lib.hid (((Below.refl _ w).alloc (Nat.le_refl _) _).trans hb1)
  clear hB1 hb1 hmk
  go_wp2_with fail
  refine (put_any w.heap.size 8 248 248 s.size 2 (by omega) (by omega) (by omega) _ (by rw [putL_length, List.length_replicate]; omega) _ hB1'.out).mono ?_
  rintro e w2 ⟨rfl, hb2, hB2⟩
  have hB2' := Lib.hid hB2
  have hb2' := Lib.hid (hb1'.out.trans hb2)
  clear hB2 hb2 hB1' hb1' w1
  have hcp := run_copy_string (P := Tryd.prog) w2 50 9 3 5 w.heap.size 10 246 246 s Tryd.underlying50 (fun w => by kernel_rfl) (by omega) (fun j hj => by
    rw [hB2'.out.cell (10 + j) (by simp only [putL_length, List.length_replicate]; omega)]; rfl) (fun j hj => hB2'.out.free (10 + j) (by simp only [putL_length, List.length_replicate]; omega))
  have hB3 := Lib.hid (BytesAt.setCells s.data.toList 10 _ w2 hB2'.out (by simp only [putL_length, List.length_replicate]; rw [HL.out, ← HS.out]; omega))
  have hb3 := Lib.hid (below_setCells' (b := w.heap.size) (Nat.le_refl _) (s.data.toList.map fun x => Value.int .u8 (x.toNat : Int)) 10 w2 hb2'.out)
  go_wp2_with (refine Lib.wpList_copy_run _ rfl (.tmp 25) (.tmp 26) 50 9 rfl _ _ rfl rfl hcp ?_)
  have hB4 : Hid (BytesAt (w2.setCells w.heap.size 10 (s.data.toList.map fun x => Value.int .u8 (x.toNat : Int))) w.heap.size (headL stamp p ++ List.replicate 12 0)) := by
    have := hB3.out
    rw [HL.out, HS.out, seal_mid stamp p (by rw [← HS.out]; exact hp)] at this
    rw [HL.out]
    exact Lib.hid this
  clear hcp hB3 hb2' hB2'
  generalize (w2.setCells w.heap.size 10 (s.data.toList.map fun x => Value.int .u8 (x.toNat : Int))) = w3 at hb3 hB4 ⊢
  clear w2
  have hhl := headL_length stamp p (by rw [← HS.out]; exact hp)
  have HE := Lib.hid (seal_end stamp p (by rw [← HS.out]; exact hp))
  refine wp_region_still_tail 7 (by kernel_rfl) (by kernel_rfl) ?_
  simp only [List.take_succ_cons, List.take_zero, List.drop_succ_cons, List.drop_zero]
  change wpStill _ _ w3.drew (fun a' => wpList _ _ _ _ a' w3.drew) _ _
  have hb4 := Lib.hid (below_drewN hb3.out 1)
  have hB5 := Lib.hid hB4.out.drew
  change Hid (Below w.heap.size w w3.drew) at hb4
  generalize w3.drew = w4 at hb4 hB5 ⊢
  clear hb3 hB4 w3
  have hcv := conv_bytes w4 w.heap.size 256 244 _ hB5.out (by rw [List.length_append, hhl]; omega)
  rw [take_left hhl] at hcv
  have hput := hide (put_any w.heap.size 244 12 12 (Crc.sum (headL stamp p)).toNat 4 (by omega) (Nat.lt_trans (Crc.toNat_lt _) (by omega)) (by omega) _ (by rw [List.length_append, hhl, List.length_replicate]; omega) w4 hB5.out)
  have hsum := hide (sum_head' stamp p (by rw [← HS.out]; exact hp) w4 (HN.out.below hb4.out hgN))
  have hlt := Crc.toNat_lt (Crc.sum (headL stamp p))
  have HH := Lib.hid hhl
  clear hhl HL HS HN
  still_step
  still_step
  still_step
  still_step
  still_step
  still_call (unhide hsum)
  still_step
  refine wpStill_nil ?_
  clear hcv hsum
  go_wp2_with fail
  refine (unhide hput).mono ?_
  rintro e w5 ⟨rfl, hb6, hB6⟩
  clear hput hB5
  have hB6' := Lib.hid hB6
  have hb6' := Lib.hid (hb4.out.trans hb6)
  clear hB6 hb6 hb4 w4
  go_wp2_with fail
  refine (put_any w.heap.size 248 8 8 stamp 8 (by omega) hs (by omega) _ (by rw [putL_length, List.length_append, HH.out, List.length_replicate]; omega) _ hB6'.out).mono ?_
  rintro e w6 ⟨rfl, hb7, hB7⟩
  rw [HE.out] at hB7
  have hcv := conv_bytes w6 w.heap.size 256 256 _ hB7 (by have := hB7; rw [sealL, List.length_append, List.length_append, HH.out, lowL_length, lowL_length]; omega)
  have hb7' := Lib.hid (hb6'.out.trans hb7)
  have e9 : (sealL stamp p).take 256 = sealL stamp p := List.take_of_length_le (by rw [sealL, List.length_append, List.length_append, HH.out, lowL_length, lowL_length]; omega)
  rw [e9] at hcv
  clear hB7 hb7 hB6' hb6' HH HE e9
  go_wp2_with fail
  go_ret2
  exact ⟨rfl, hb7'.out⟩
end Go.Proofs.YtffmekcpkilkoaaDoor
