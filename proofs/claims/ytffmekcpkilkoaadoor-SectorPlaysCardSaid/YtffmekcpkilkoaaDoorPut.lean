/-
  Walks over layer 7: put.
-/
import Derived.Test.YtffmekcpkilkoaaDoorWalks2
import Derived.Deep.LoopGhost
namespace Go.Proofs.YtffmekcpkilkoaaDoor
open Go.RowKit

/-- Block g holds the bytes of l, free to be written. -/
structure BytesAt (w : World) (g : Nat) (l : List UInt8) : Prop where
  cell : ∀ j (h : j < l.length), w.cell? ⟨g, j, none⟩ = some (.int .u8 (l[j].toNat : Int))
  free : ∀ j, j < l.length → w.frozen? ⟨g, j, none⟩ = false
theorem BytesAt.set {w : World} {g : Nat} {l : List UInt8} (h : BytesAt w g l) (j : Nat) (hj : j < l.length) (c : UInt8) : BytesAt (w.setCell ⟨g, j, none⟩ (.int .u8 (c.toNat : Int))) g (l.set j c) := by
  refine ⟨fun i hi => ?_, fun i hi => ?_⟩
  · have hi' : i < l.length := by simpa using hi
    by_cases e : i = j
    · subst e
      rw [World.cell?_setCell_same (h := h.cell i hi')]
      simp
    · rw [World.cell?_setCell_other _ _ _ _ (fun e' => e (by injection e' with _ h2; exact h2.symm)), h.cell i hi', List.getElem_set_ne (fun e' => e e'.symm)]
  · rw [World.frozen?_setCell]
    exact h.free i (by simpa using hi)
/-- Byte k of a number. -/
def wb (x k : Nat) : UInt8 := UInt8.ofNat (x / 2 ^ (8 * k) % 256)
theorem wb_val (x k : Nat) : ((wb x k).toNat : Int) = (x : Int) / 2 ^ (8 * k) % 256 := by
  unfold wb
  rw [UInt8.toNat_ofNat_of_lt' (show x / 2 ^ (8 * k) % 256 < 256 from Nat.mod_lt _ (by omega)), Int.natCast_emod, Int.natCast_ediv, Int.natCast_pow]
  rfl
/-- The text behind k rounds of put. -/
def putL (l : List UInt8) (off x : Nat) : Nat → List UInt8
  | 0 => l
  | k + 1 => (putL l off x k).set (off + k) (wb x k)
theorem putL_length (l : List UInt8) (off x : Nat) : ∀ k, (putL l off x k).length = l.length
  | 0 => rfl
  | k + 1 => by simp [putL, putL_length l off x k]
theorem put_done {w : World} {g off x k : Nat} {l : List UInt8} (h : BytesAt w g (putL l off x k)) (hk : off + k < l.length) (o : Nat) (ho : o = off + k) (V : Int) (hV : V = ((wb x k).toNat : Int)) :
    BytesAt (w.setCell ⟨g, o, none⟩ (.int .u8 V)) g (putL l off x (k + 1)) := by
  subst ho hV
  exact h.set _ (by rw [putL_length]; exact hk) _

set_option maxRecDepth 100000 in
set_option maxHeartbeats 4000000 in
theorem put_any (g off len cap x n : Nat) (hn : n ≤ 8) (hx : x < 18446744073709551616) (hlen : n ≤ len) (l : List UInt8) (hl : off + len ≤ l.length) (w : World) (h : BytesAt w g l) :
    Calls Tryd.prog 22 #[.slice (some ⟨g, off, none⟩) len cap, .int .u64 x, .int .i64 n] w fun e w' => e = .returned (.tuple #[]) ∧ Below g w w' ∧ BytesAt w' g (putL l off x n) := by
  have H := Lib.hid h
  have HL := Lib.hid hl
  clear h hl
  go_enter Tryd.func22, Tryd.ntmps22
  go_wp2
  go_loopw [8] (fun i wr => ∃ k : Nat, k ≤ n ∧ i = .int .i64 k ∧ Hid (BytesAt wr g (putL l off x k)) ∧ Hid (Below g w wr)) (fun i _ => n - (intOf i).toNat)
  case atStart => exact ⟨0, by omega, rfl, H, Lib.hid (Below.refl _ _)⟩
  case round =>
    obtain ⟨k, hk, rfl, HW, HB⟩ := hrel
    by_cases hkn : k < n
    · obtain ⟨c, hc, hf⟩ : ∃ c : Value, wr.cell? ⟨g, off + k, none⟩ = some c ∧ wr.frozen? ⟨g, off + k, none⟩ = false := by
        have hlen2 : off + k < (putL l off x k).length := by rw [putL_length]; have := HL.out; omega
        exact ⟨_, HW.out.cell _ hlen2, HW.out.free _ hlen2⟩
      rcases (by omega : k = 0 ∨ k = 1 ∨ k = 2 ∨ k = 3 ∨ k = 4 ∨ k = 5 ∨ k = 6 ∨ k = 7) with rfl | rfl | rfl | rfl | rfl | rfl | rfl | rfl
      · simp only [Nat.add_zero] at hc hf
        go_wp2
        exact ⟨⟨1, by omega, rfl, Lib.hid (put_done HW.out (by have := HL.out; omega) _ rfl _ (by rw [wb_val]; first | rfl | omega)), Lib.hid (HB.out.setCell (Nat.le_refl _) _)⟩, by show n - 1 < n - 0; omega⟩
      · go_wp2
        exact ⟨⟨2, by omega, rfl, Lib.hid (put_done HW.out (by have := HL.out; omega) _ rfl _ (by rw [wb_val]; first | rfl | omega)), Lib.hid (HB.out.setCell (Nat.le_refl _) _)⟩, by show n - 2 < n - 1; omega⟩
      · go_wp2
        exact ⟨⟨3, by omega, rfl, Lib.hid (put_done HW.out (by have := HL.out; omega) _ rfl _ (by rw [wb_val]; first | rfl | omega)), Lib.hid (HB.out.setCell (Nat.le_refl _) _)⟩, by show n - 3 < n - 2; omega⟩
      · go_wp2
        exact ⟨⟨4, by omega, rfl, Lib.hid (put_done HW.out (by have := HL.out; omega) _ rfl _ (by rw [wb_val]; first | rfl | omega)), Lib.hid (HB.out.setCell (Nat.le_refl _) _)⟩, by show n - 4 < n - 3; omega⟩
      · go_wp2
        exact ⟨⟨5, by omega, rfl, Lib.hid (put_done HW.out (by have := HL.out; omega) _ rfl _ (by rw [wb_val]; first | rfl | omega)), Lib.hid (HB.out.setCell (Nat.le_refl _) _)⟩, by show n - 5 < n - 4; omega⟩
      · go_wp2
        exact ⟨⟨6, by omega, rfl, Lib.hid (put_done HW.out (by have := HL.out; omega) _ rfl _ (by rw [wb_val]; first | rfl | omega)), Lib.hid (HB.out.setCell (Nat.le_refl _) _)⟩, by show n - 6 < n - 5; omega⟩
      · go_wp2
        exact ⟨⟨7, by omega, rfl, Lib.hid (put_done HW.out (by have := HL.out; omega) _ rfl _ (by rw [wb_val]; first | rfl | omega)), Lib.hid (HB.out.setCell (Nat.le_refl _) _)⟩, by show n - 7 < n - 6; omega⟩
      · go_wp2
        exact ⟨⟨8, by omega, rfl, Lib.hid (put_done HW.out (by have := HL.out; omega) _ rfl _ (by rw [wb_val]; first | rfl | omega)), Lib.hid (HB.out.setCell (Nat.le_refl _) _)⟩, by show n - 8 < n - 7; omega⟩
    · obtain rfl : k = n := by omega
      clear hk hkn
      go_wp2
      go_end0
      exact ⟨rfl, HB.out, HW.out⟩
end Go.Proofs.YtffmekcpkilkoaaDoor
