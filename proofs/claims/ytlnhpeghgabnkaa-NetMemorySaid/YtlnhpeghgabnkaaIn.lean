/-
  What an argument that is a list of messages gives: its messages, where they lie, how many.
-/
import Derived.Test.YtlnhpeghgabnkaaRows
import Derived.Test.YtlnhpeghgabnkaaParts
import Derived.Test.YtlnhpeghgabnkaaNet
import Derived.OpenShut
namespace Go.Proofs.Ytlnhpeghgabnkaa
open Go.RowKit Go.ChangeShapes Go.WideShapes

theorem bulk_pos {H : Type} (d : DataW H) : 1 ≤ Rows.uptoBulk d := by
  cases d with
  | lit l => cases l <;> simp [Rows.uptoBulk]
  | nil => simp [Rows.uptoBulk]
  | ptr d => simp [Rows.uptoBulk]
  | slice e s => simp [Rows.uptoBulk]
  | agg p => simp [Rows.uptoBulk]
  | iface n d => simp [Rows.uptoBulk]
  | map e => simp [Rows.uptoBulk]
  | held h => simp [Rows.uptoBulk]
theorem bulk_len {H : Type} (l : List (DataW H)) : l.length ≤ Rows.uptoBulkAll l := by
  induction l with
  | nil => simp [Rows.uptoBulkAll]
  | cons x l ih =>
    have := bulk_pos x
    simp only [Rows.uptoBulkAll, List.length_cons]
    omega
theorem bulk_slice {H : Type} {n : Nat} {D : Nat → DataW H} {R : List (DataW H)} : n ≤ Rows.uptoBulk (.slice ((List.range n).map D) R) := by
  have := bulk_len ((List.range n).map D)
  simp only [List.length_map, List.length_range] at this
  simp only [Rows.uptoBulk]
  omega
theorem msgs_of_trod {H : Type} {enc : TypeId × Value → H} {W : World} {fuel : Nat} {ad : Option Addr} {n cap : Nat} {d : DataW H} {p : List MemPlace}
    (h : DataW.trod enc Try.prog W 0 (fun _ => true) true fuel 27 [.slice ad n cap] = some (d, p)) (hlt : ∀ x ∈ p, x.block < W.heap.size) : n ≤ Rows.uptoBulk d ∧ (ad = none → cap = 0) ∧ n ≤ cap ∧ ∃ ms : List Msg, ms.length = n ∧ EM.Rd W W.heap.size ad ms := by
  have hnil : ad = none → n = 0 ∧ cap = 0 := by
    rcases Go.Deep.open_slice Try.underlying27 h with ⟨hcs, _⟩ | ⟨a, len, cap', m, fl, D, Pl, hcs, _⟩
    · simp only [List.cons.injEq, Value.slice.injEq, and_true] at hcs
      exact fun _ => hcs.2
    · simp only [List.cons.injEq, Value.slice.injEq, and_true] at hcs
      exact fun e => by rw [hcs.1] at e; cases e
  have hle : n ≤ cap := by
    rcases Go.Deep.open_slice Try.underlying27 h with ⟨hcs, _⟩ | ⟨a, len, cap', m, fl, D, Pl, hcs, _, hl, _⟩
    · simp only [List.cons.injEq, Value.slice.injEq, and_true] at hcs
      omega
    · simp only [List.cons.injEq, Value.slice.injEq, and_true] at hcs
      obtain ⟨_, rfl, rfl⟩ := hcs
      exact hl
  rcases struct_slice Try.underlying27 Try.underlying38 (by kernel_rfl) (by kernel_rfl) (by decide) h with rfl | ⟨b, off, D, R, rfl, hl, hm, rfl, hps, hi⟩
  · exact ⟨by omega, fun e => (hnil e).2, hle, [], rfl, Elt.Rd.nil _ _ _ _⟩
  · have hbl : b < W.heap.size := hlt _ hps
    have each : ∀ i, ∃ m : Msg, i < n → ∀ j, j < 7 → W.cell? ⟨b, off + i * 7 + j, none⟩ = (Msg.cs m)[j]? := fun i => by
      by_cases hin : i < n
      · obtain ⟨m, Y, hD, hF⟩ := hi i hin
        obtain ⟨v0, e0, t0⟩ := hF 0 _ rfl
        obtain ⟨v1, e1, t1⟩ := hF 1 _ rfl
        obtain ⟨v2, e2, t2⟩ := hF 2 _ rfl
        obtain ⟨v3, e3, t3⟩ := hF 3 _ rfl
        obtain ⟨v4, e4, t4⟩ := hF 4 _ rfl
        obtain ⟨v5, e5, t5⟩ := hF 5 _ rfl
        obtain ⟨v6, e6, t6⟩ := hF 6 _ rfl
        obtain ⟨x0, hx0, y0, _⟩ := DataW.trod_int Try.underlying3 t0
        obtain ⟨x1, hx1, y1, _⟩ := DataW.trod_int Try.underlying3 t1
        obtain ⟨x2, hx2, y2, _⟩ := DataW.trod_string Try.underlying9 t2
        obtain ⟨x3, hx3, y3, _⟩ := DataW.trod_int Try.underlying3 t3
        obtain ⟨x4, hx4, y4, _⟩ := DataW.trod_int Try.underlying2 t4
        obtain ⟨x5, hx5, y5, _⟩ := DataW.trod_string Try.underlying9 t5
        obtain ⟨x6, hx6, y6, _⟩ := DataW.trod_string Try.underlying9 t6
        obtain rfl : v0 = .int .i64 x0 := by simpa using hx0
        obtain rfl : v1 = .int .i64 x1 := by simpa using hx1
        obtain rfl : v2 = .string x2 := by simpa using hx2
        obtain rfl : v3 = .int .i64 x3 := by simpa using hx3
        obtain rfl : v4 = .int .i64 x4 := by simpa using hx4
        obtain rfl : v5 = .string x5 := by simpa using hx5
        obtain rfl : v6 = .string x6 := by simpa using hx6
        refine ⟨⟨x0, x1, x2, x3, x4, x5, x6⟩, fun _ j hj => ?_⟩
        rcases (by omega : j = 0 ∨ j = 1 ∨ j = 2 ∨ j = 3 ∨ j = 4 ∨ j = 5 ∨ j = 6) with rfl | rfl | rfl | rfl | rfl | rfl | rfl
        · exact e0
        · exact e1
        · exact e2
        · exact e3
        · exact e4
        · exact e5
        · exact e6
      · exact ⟨Msg.zero, fun h => absurd h hin⟩
    obtain ⟨L, hL⟩ := Classical.axiomOfChoice each
    refine ⟨bulk_slice, fun e => (hnil e).2, hle, (List.range n).map L, by simp, fun _ => ⟨b, off, rfl, hbl, fun i hi j hj => ?_⟩⟩
    have hin : i < n := by simpa using hi
    rw [List.getElem_map, List.getElem_range]
    exact hL i hin j hj
end Go.Proofs.Ytlnhpeghgabnkaa
