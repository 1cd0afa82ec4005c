/-
  Layer 22: rows of pairs of numbers; pairs().
-/
import Derived.Test.YtfemggdbgibgaaaRow
import Derived.Test.YtfemggdbgibgaaaPlays
namespace Go.Proofs.Ytfemggdbgibgaaa
open Go.RowKit

def prCs (x : Int × Int) : List Value := [.int .i64 x.1, .int .i64 x.2]
noncomputable def EQ : Elt Try.prog (Int × Int) := Elt.of 23 25 2 16 prCs (.agg #[.int .i64 0, .int .i64 0]) Try.underlying23 (by kernel_rfl) rfl (by decide) (by decide) (fun _ => rfl)
  (fun x u hu => by simp only [prCs, List.mem_cons, List.not_mem_nil, or_false] at hu; rcases hu with rfl | rfl <;> rfl)
theorem rdQ {w : World} {B : Nat} {ad : Option Addr} {l : List (Int × Int)} (h : EQ.Rd w B ad l) (i : Nat) (p a : Int) (hi : l[i]? = some (p, a)) : ∃ b off, ad = some ⟨b, off, none⟩ ∧ b < B ∧
    w.cell? ⟨b, off + i * 2, none⟩ = some (.int .i64 p) ∧ w.cell? ⟨b, off + i * 2 + 1, none⟩ = some (.int .i64 a) := by
  obtain ⟨hl, hx⟩ := List.getElem?_eq_some_iff.1 hi
  obtain ⟨b, off, e, hb, hc⟩ := h (by omega)
  have h0 := hc i hl 0 (by decide)
  have h1 := hc i hl 1 (by decide)
  rw [hx] at h0 h1
  exact ⟨b, off, e, hb, h0, h1⟩
/-- The first n of all pairs of small numbers. -/
def prs (n : Nat) : List (Int × Int) := (List.range n).map fun m => (((m / 9 : Nat) : Int) - 2, ((m % 9 : Nat) : Int) - 2)
theorem prs_len (n : Nat) : (prs n).length = n := by simp [prs]
theorem prs_next (p a : Int) (hp : -2 ≤ p) (ha : -2 ≤ a) (ha6 : a ≤ 6) : prs (9 * (p + 2).toNat + (a + 1 + 2).toNat) = prs (9 * (p + 2).toNat + (a + 2).toNat) ++ [(p, a)] := by
  have e : 9 * (p + 2).toNat + (a + 1 + 2).toNat = 9 * (p + 2).toNat + (a + 2).toNat + 1 := by omega
  rw [e]
  unfold prs
  rw [List.range_succ, List.map_append]
  have h1 : (9 * (p + 2).toNat + (a + 2).toNat) / 9 = (p + 2).toNat := by omega
  have h2 : (9 * (p + 2).toNat + (a + 2).toNat) % 9 = (a + 2).toNat := by omega
  simp only [List.map_cons, List.map_nil]
  rw [h1, h2]
  have h3 : ((p + 2).toNat : Int) - 2 = p := by omega
  have h4 : ((a + 2).toNat : Int) - 2 = a := by omega
  rw [h3, h4]
theorem prs_row (p : Int) (_hp : -2 ≤ p) : 9 * (p + 2).toNat + ((7 : Int) + 2).toNat = 9 * (p + 1 + 2).toNat := by omega
set_option maxRecDepth 100000 in
set_option maxHeartbeats 2000000 in
theorem pairs_any (w : World) :
    Calls Try.prog 7 #[] w fun e w' => ∃ ad n c, e = .returned (.slice ad n c) ∧ EQ.Own w' w.heap.size (.slice ad n c) (prs 90) ∧ Below w.heap.size w w' := by
  go_enter Try.func7, Try.ntmps7
  go_wp2_with fail
  go_loopw [1, 2] (fun v q wr => ∃ (p : Int) (ad : Option Addr) (n c : Nat), -2 ≤ p ∧ p ≤ 8 ∧ q = .int .i64 p ∧ v = .slice ad n c ∧ Hid (EQ.Own wr w.heap.size (.slice ad n c) (prs (9 * (p + 2).toNat))) ∧ Hid (Below w.heap.size w wr)) (fun _ q _ => (8 - intOf q).toNat)
  case atStart => exact ⟨-2, _, _, _, by omega, by omega, rfl, rfl, Lib.hid (Elt.Own.nil _ _ _), Lib.hid (Below.refl _ _)⟩
  case round =>
    obtain ⟨p, ad, n, c, hp1, hp2, rfl, rfl, hO, hB⟩ := hrel
    by_cases hp : p ≤ 7
    · go_wp2_with fail
      go_loopw [1, 3] (fun v q wr => ∃ (a : Int) (ad : Option Addr) (n c : Nat), -2 ≤ a ∧ a ≤ 7 ∧ q = .int .i64 a ∧ v = .slice ad n c ∧ Hid (EQ.Own wr w.heap.size (.slice ad n c) (prs (9 * (p + 2).toNat + (a + 2).toNat))) ∧ Hid (Below w.heap.size w wr)) (fun _ q _ => (7 - intOf q).toNat)
      case atStart => exact ⟨-2, _, _, _, by omega, by omega, rfl, rfl, hO, hB⟩
      case round =>
        obtain ⟨a, ad, n, c, ha1, ha2, rfl, rfl, hO, hB⟩ := hrel
        by_cases ha : a ≤ 6
        · have hlb : Hid ((prs (9 * (p + 2).toNat + (a + 2).toNat)).length + 1 ≤ 274877906944) := Lib.hid (by rw [prs_len]; omega)
          have hnx := Lib.hid (prs_next p a hp1 ha1 ha)
          go_wp2_with (at_builtin; refine EQ.wpList_app rfl _ _ (by rfl) w.heap.size _ _ [(p, a)] wr _ (by rfl) hO.out _ 1 (by rfl) (by rfl) (by rfl) (by rfl) hlb.out hB.out.size ?_; intro ad9 n9 c9 w9 h9)
          have HB9 := Lib.hid (h9.out.below hO.out hB.out hB.out.size)
          go_roundw
          case rel => exact ⟨a + 1, _, _, _, by omega, by omega, rfl, rfl, by rw [hnx.out]; exact Lib.hid h9.out.own, HB9⟩
          case measure => simp [intOf]; omega
        · obtain rfl : a = 7 := by omega
          go_wp2_with fail
          go_roundw
          case rel => exact ⟨p + 1, _, _, _, by omega, by omega, rfl, rfl, by rw [← prs_row p hp1]; exact hO, hB⟩
          case measure => simp [intOf]; omega
    · obtain rfl : p = 8 := by omega
      go_wp2_with fail
      go_ret
      exact ⟨_, _, _, rfl, hO.out, hB.out⟩
end Go.Proofs.Ytfemggdbgibgaaa
