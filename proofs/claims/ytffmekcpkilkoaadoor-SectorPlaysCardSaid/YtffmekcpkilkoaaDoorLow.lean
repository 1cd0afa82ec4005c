/-
  Walks over layer 7's reference: low, number.
-/
import Derived.Test.YtffmekcpkilkoaaDoorTear
import Derived.OwnWalk
import Derived.Maps.AppendAt
namespace Go.Proofs.YtffmekcpkilkoaaDoor
open Go.RowKit

/-- A byte as a cell. -/
def enc8 (c : UInt8) : Value := .int .u8 (c.toNat : Int)
theorem u8_info : (Tryd.prog.info? 5).map (fun i => (i.zero, i.size, i.bytes)) = some (some (.int .u8 0), 1, 1) := by kernel_rfl
/-- A slice of the call's own that holds these bytes, as a text. -/
theorem conv_own (w : World) (B n : Nat) (v : Value) (l : List UInt8) (h : w.ownsRow B 5 1 v n (l.map enc8)) :
    (convert 50 9 v).run Tryd.prog w = .ok (.string ⟨l.toArray⟩) w := by
  have hl : l.length = n := by have := h.1; simpa using this
  rcases h.2 with ⟨rfl, h0⟩ | ⟨g, cap, cur, rfl, _, hh, hn, hc, hsz, htk⟩
  · have : l = [] := List.eq_nil_of_length_eq_zero (by omega)
    subst this
    rw [run_convert_bytes_string w 50 9 5 none 0 0 Tryd.underlying50 Tryd.underlying5 Tryd.underlying9]
    rfl
  · have := run_convert_bytes_back (P := Tryd.prog) w 50 9 5 ⟨g, 0, none⟩ cap l Tryd.underlying50 Tryd.underlying5 Tryd.underlying9 (fun j hj => by
      have e : (Addr.add ⟨g, 0, none⟩ j) = ⟨g, j, none⟩ := by unfold Addr.add; split <;> simp_all
      rw [e, cell_of_row w g j cur 5 (0, 0) hh]
      have h1 : (cur.toList.take (n * 1))[j]? = (l.map enc8)[j]? := by rw [htk]
      rw [List.getElem?_take, if_pos (by omega), List.getElem?_map, List.getElem?_eq_getElem hj] at h1
      simpa [enc8] using h1)
    rw [hl] at this
    exact this
theorem low_rel {B k x c : Nat} {w wr w1 : World} {v v' : Value} {o : Obj} (hown : wr.ownsRow B 5 1 v k ((lowL x k).map enc8)) (hb : Below B w wr) (hB : B ≤ wr.heap.size)
    (hown' : w1.ownsRow B 5 1 v' (k + 1) ((lowL x k).map enc8 ++ [.int .u8 (c : Int)])) (hgrow : (wr.alloc o).grownBy w1 v.ownBlock) (hc : c = x / 2 ^ (8 * k) % 256) :
    w1.ownsRow B 5 1 v' (k + 1) ((lowL x (k + 1)).map enc8) ∧ Below B w w1 := by
  refine ⟨?_, (hb.alloc hB o).grown hgrow (by simp; omega) (fun j hj => by have := (hown.lt j hj).1; omega)⟩
  rw [lowL_succ, List.map_append]
  have : [Value.int .u8 (c : Int)] = [wb x k].map enc8 := by simp [enc8, wb_toNat, hc]
  rw [← this]
  exact hown'
set_option maxRecDepth 100000 in
set_option maxHeartbeats 2000000 in
theorem low_any (x n : Nat) (hx : x < 18446744073709551616) (hn : n ≤ 8) (w : World) :
    Calls Tryd.prog 26 #[.int .u64 x, .int .i64 n] w fun e w' => e = .returned (.string ⟨(lowL x n).toArray⟩) ∧ Below w.heap.size w w' := by
  obtain ⟨i0, hi, hz0, hz1, hz2⟩ := info_parts u8_info
  have HX := Lib.hid hx
  clear hx
  go_enter Tryd.func26, Tryd.ntmps26
  go_wp2_with fail
  go_loopw [0, 5, 6] (fun q v i wr => ∃ (k y : Nat), k ≤ n ∧ i = .int .i64 k ∧ q = .int .u64 y ∧ Hid (y = x / 2 ^ (8 * k)) ∧ Hid (wr.ownsRow w.heap.size 5 1 v k ((lowL x k).map enc8)) ∧ Hid (Below w.heap.size w wr)) (fun _ _ i _ => n - (intOf i).toNat)
  case atStart => exact ⟨0, x, by omega, rfl, rfl, Lib.hid (by simp), Lib.hid (World.ownsRow_nil _ _ _ _), Lib.hid (Below.refl _ _)⟩
  case round =>
    obtain ⟨k, y, hk, rfl, rfl, hy, hown, HB⟩ := hrel
    by_cases hkn : k < n
    · have hkn2 : (k : Int) < (n : Int) := by omega
      have hyl : (y : Int) ≤ 18446744073709551615 := by have := HX.out; have := hy.out; have := Nat.div_le_self x (2 ^ (8 * k)); omega
      obtain ⟨c, hc⟩ : ∃ c : Nat, Hid (y % 256 = c) := ⟨_, Lib.hid rfl⟩
      obtain ⟨y2, hy2⟩ : ∃ c : Nat, Hid (y / 256 = c) := ⟨_, Lib.hid rfl⟩
      have hyc : (y : Int) % 256 = (c : Int) := by have := hc.out; omega
      have hyq : (y : Int) / 256 = (y2 : Int) := by have := hy2.out; omega
      have hB : Hid (w.heap.size ≤ wr.heap.size) := Lib.hid HB.out.size
      have ho := Lib.hid (hown.out.alloc (.cells #[.int .u8 (c : Int)] 5))
      go_wp2_with (at_builtin; refine wpList_append_own _ rfl _ _ 50 rfl w.heap.size 5 i0 (.int .u8 0) 1 1 Tryd.underlying50 hi hz0 hz1 hz2 rfl (by decide) _ _ _ rfl ho.out ⟨wr.heap.size, 0, none⟩ 1 1 [.int .u8 (c : Int)] rfl rfl (cell_one_new _ _ _) (by simp [Value.oneCell']) (by unfold maxLen; omega) (by omega) (by have := hB.out; simp; omega) ?_; intro v' w1 hown1 hgrow _)
      obtain ⟨h1, h2⟩ := low_rel hown.out HB.out hB.out hown1 hgrow (by rw [← hc.out, hy.out])
      have H1 := Lib.hid h1
      have H2 := Lib.hid h2
      have H3 : Hid (y2 = x / 2 ^ (8 * (k + 1))) := by rw [← hy2.out, hy.out, Nat.div_div_eq_div_mul, ← show (2 : Nat) ^ (8 * (k + 1)) = 2 ^ (8 * k) * 256 by rw [Nat.mul_add, Nat.pow_add]]; exact Lib.hid rfl
      clear h1 h2 hown1 hgrow ho hown HB
      go_wp2_with fail
      go_roundw
      case rel => exact ⟨k + 1, y2, by omega, by go_num, rfl, H3, H1, H2⟩
      case measure => simp [intOf]; omega
    · have hkn2 : ¬ (k : Int) < (n : Int) := by omega
      obtain rfl : k = n := by omega
      have hcv := conv_own wr _ _ _ _ hown.out
      go_wp2_with fail
      go_ret
      exact ⟨rfl, HB.out⟩
end Go.Proofs.YtffmekcpkilkoaaDoor
