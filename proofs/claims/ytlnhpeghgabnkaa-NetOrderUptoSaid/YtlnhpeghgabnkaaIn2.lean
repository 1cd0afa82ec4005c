/-
  What an argument that is a list of whole numbers gives: its numbers, where they lie, how many.
-/
import Derived.Test.YtlnhpeghgabnkaaIn
import Derived.ChangeSlices
namespace Go.Proofs.Ytlnhpeghgabnkaa
open Go.RowKit Go.ChangeShapes Go.WideShapes

theorem ints_of_trod {H : Type} {enc : TypeId × Value → H} {W : World} {fuel : Nat} {ad : Option Addr} {n cap : Nat} {d : DataW H} {p : List MemPlace}
    (h : DataW.trod enc Try.prog W 0 (fun _ => true) true fuel 47 [.slice ad n cap] = some (d, p)) (hlt : ∀ x ∈ p, x.block < W.heap.size) :
    n ≤ Rows.uptoBulk d ∧ ∀ i, i < n → ∃ cb co x, ad = some ⟨cb, co, none⟩ ∧ cb < W.heap.size ∧ W.cell? ⟨cb, co + i, none⟩ = some (.int .i64 x) := by
  have hn : n ≤ Rows.uptoBulk d := by
    rcases Go.Deep.open_slice Try.underlying47 h with ⟨hcs, _⟩ | ⟨a, len, cap', m, fl, D, Pl, hcs, _, _, _, _, hx, _⟩
    · simp only [List.cons.injEq, Value.slice.injEq, and_true] at hcs
      omega
    · simp only [List.cons.injEq, Value.slice.injEq, and_true] at hcs
      obtain ⟨_, rfl, _⟩ := hcs
      simp only [Prod.mk.injEq] at hx
      rw [hx.1]
      exact bulk_slice
  refine ⟨hn, ?_⟩
  rcases open_ints Try.underlying47 Try.underlying3 (by kernel_rfl) h with ⟨hcs, hx⟩ | ⟨a, len', cap', zs, hcs, _, hl, hm, hz, hx, hcell, hwz⟩
  · simp only [List.cons.injEq, Value.slice.injEq, and_true] at hcs
    obtain ⟨rfl, rfl, rfl⟩ := hcs
    exact fun i hi => absurd hi (by omega)
  · simp only [List.cons.injEq, Value.slice.injEq, and_true] at hcs
    obtain ⟨rfl, rfl, rfl⟩ := hcs
    simp only [Prod.mk.injEq] at hx
    obtain ⟨rfl, rfl⟩ := hx
    simp only [if_true] at hz
    intro i hi
    obtain ⟨b, off, rfl, hc⟩ := ints_at hcell (by omega)
    have hb : b < W.heap.size := hlt (.cell b off) (MemPlace.mem_row.2 ⟨0, by omega, by simp⟩)
    exact ⟨b, off, zs.getD i 0, rfl, hb, hc i (by omega)⟩
end Go.Proofs.Ytlnhpeghgabnkaa
