/-
  What an argument that is a list of operations gives: where they lie, what their lists hold, how many in all.
-/
import Derived.Test.YtlnhpeghgabnkaaIn
import Derived.Test.YtlnhpeghgabnkaaScript
import Derived.Lib.SmallJoins
namespace Go.Proofs.Ytlnhpeghgabnkaa
open Go.RowKit Go.ChangeShapes Go.WideShapes Go.Deep

theorem list7 {α : Type} {l : List α} (h : l.length = 7) : ∃ a b c d e f g, l = [a, b, c, d, e, f, g] := by
  match l, h with
  | [a, b, c, d, e, f, g], _ => exact ⟨a, b, c, d, e, f, g, rfl⟩
theorem list5 {α : Type} {l : List α} (h : l.length = 5) : ∃ a b c d e, l = [a, b, c, d, e] := by
  match l, h with
  | [a, b, c, d, e], _ => exact ⟨a, b, c, d, e, rfl⟩
theorem list3 {α : Type} {l : List α} (h : l.length = 3) : ∃ a b c, l = [a, b, c] := by
  match l, h with
  | [a, b, c], _ => exact ⟨a, b, c, rfl⟩
theorem cellsInt : Try.prog.cellsOf 3 = 1 := by kernel_rfl
theorem cellsBool : Try.prog.cellsOf 4 = 1 := by kernel_rfl
theorem cellsStr : Try.prog.cellsOf 9 = 1 := by kernel_rfl
theorem cellsMs : Try.prog.cellsOf 27 = 1 := by kernel_rfl
theorem cellsAns : Try.prog.cellsOf 29 = 3 := by kernel_rfl
theorem cellsOp : Try.prog.cellsOf 31 = 7 := by kernel_rfl
theorem op_of_trod {H : Type} {enc : TypeId × Value → H} {W : World} {fuel : Nat} {cs : List Value} {y : DataW H × List MemPlace}
    (h : DataW.trod enc Try.prog W 0 (fun _ => true) true fuel 31 cs = some y) (hlt : ∀ x ∈ y.2, x.block < W.heap.size) : ∃ o : Opv, cs = o.cs ∧ OpOk W o ∧ o.ln + 1 ≤ Rows.uptoBulk y.1 := by
  obtain ⟨xs, m, _, rfl, hl, hxl, hf⟩ := DataW.trod_struct Try.underlying31 h
  rw [cellsOp] at hl
  obtain ⟨c0, c1, c2, c3, c4, c5, c6, rfl⟩ := list7 hl
  obtain ⟨y0, y1, y2, y3, y4, rfl⟩ := list5 (show xs.length = 5 from hxl)
  have t0 : DataW.trod enc Try.prog W 0 (fun _ => true) true m 3 [c0] = some y0 := by have t := hf 0 _ rfl; simpa [cellsInt] using t
  have t1 : DataW.trod enc Try.prog W 0 (fun _ => true) true m 4 [c1] = some y1 := by have t := hf 1 _ rfl; simpa [cellsBool] using t
  have t2 : DataW.trod enc Try.prog W 0 (fun _ => true) true m 3 [c2] = some y2 := by have t := hf 2 _ rfl; simpa [cellsInt] using t
  have t3 : DataW.trod enc Try.prog W 0 (fun _ => true) true m 27 [c3] = some y3 := by have t := hf 3 _ rfl; simpa [cellsMs] using t
  have t4 : DataW.trod enc Try.prog W 0 (fun _ => true) true m 29 [c4, c5, c6] = some y4 := by have t := hf 4 _ rfl; simpa [cellsAns] using t
  obtain ⟨zs, m', _, rfl, _, hzl, hg⟩ := DataW.trod_struct Try.underlying29 t4
  obtain ⟨z0, z1, z2, rfl⟩ := list3 (show zs.length = 3 from hzl)
  have u0 : DataW.trod enc Try.prog W 0 (fun _ => true) true m' 3 [c4] = some z0 := by have t := hg 0 _ rfl; simpa [cellsInt] using t
  have u1 : DataW.trod enc Try.prog W 0 (fun _ => true) true m' 3 [c5] = some z1 := by have t := hg 1 _ rfl; simpa [cellsInt] using t
  have u2 : DataW.trod enc Try.prog W 0 (fun _ => true) true m' 9 [c6] = some z2 := by have t := hg 2 _ rfl; simpa [cellsStr] using t
  obtain ⟨x0, hx0, _⟩ := DataW.trod_int Try.underlying3 t0
  obtain ⟨x1, hx1, _⟩ := DataW.trod_bool Try.underlying4 t1
  obtain ⟨x2, hx2, _⟩ := DataW.trod_int Try.underlying3 t2
  obtain ⟨v0, hv0, _⟩ := DataW.trod_int Try.underlying3 u0
  obtain ⟨v1, hv1, _⟩ := DataW.trod_int Try.underlying3 u1
  obtain ⟨v2, hv2, _⟩ := DataW.trod_string Try.underlying9 u2
  obtain ⟨la, ln, lc, hx3⟩ := Go.Joins.slice_form Try.underlying27 t3
  obtain rfl : c0 = .int .i64 x0 := by simpa using hx0
  obtain rfl : c1 = .bool x1 := by simpa using hx1
  obtain rfl : c2 = .int .i64 x2 := by simpa using hx2
  obtain rfl : c3 = .slice la ln lc := by simpa using hx3
  obtain rfl : c4 = .int .i64 v0 := by simpa using hv0
  obtain rfl : c5 = .int .i64 v1 := by simpa using hv1
  obtain rfl : c6 = .string v2 := by simpa using hv2
  obtain ⟨d3, p3⟩ := y3
  obtain ⟨hn, hnil, hle, ms, hms, hR⟩ := msgs_of_trod t3 (fun x hx => hlt x (by simp [hx]))
  refine ⟨⟨x0, x1, x2, la, ln, lc, ⟨v0, v1, v2⟩, ms⟩, rfl, ⟨hms, hR, hnil, hle⟩, ?_⟩
  simp only [List.map_cons, List.map_nil, Rows.uptoBulk, Rows.uptoBulkAll]
  have := bulk_pos y0.1
  omega
theorem bulk_sum {H : Type} (n : Nat) (D : Nat → DataW H) (L : Nat → Nat) (h : ∀ i, i < n → L i ≤ Rows.uptoBulk (D i)) : ((List.range n).map L).sum ≤ Rows.uptoBulkAll ((List.range n).map D) := by
  have gen : ∀ l : List Nat, (∀ i ∈ l, L i ≤ Rows.uptoBulk (D i)) → (l.map L).sum ≤ Rows.uptoBulkAll (l.map D) := by
    intro l
    induction l with
    | nil => intro _; simp [Rows.uptoBulkAll]
    | cons x l ih =>
      intro hl
      have h1 := hl x (by simp)
      have h2 := ih (fun i hi => hl i (by simp [hi]))
      simp only [List.map_cons, List.sum_cons, Rows.uptoBulkAll]
      omega
  exact gen _ (fun i hi => h i (List.mem_range.1 hi))
theorem ops_of_trod {H : Type} {enc : TypeId × Value → H} {W : World} {fuel : Nat} {ad : Option Addr} {n cap : Nat} {d : DataW H} {p : List MemPlace}
    (h : DataW.trod enc Try.prog W 0 (fun _ => true) true fuel 22 [.slice ad n cap] = some (d, p)) (hlt : ∀ x ∈ p, x.block < W.heap.size) :
    ∃ ops : List Opv, ops.length = n ∧ EO.Rd W W.heap.size ad ops ∧ (∀ o ∈ ops, OpOk W o) ∧ opSum ops ≤ Rows.uptoBulk d := by
  rcases open_slice Try.underlying22 h with ⟨hcs, _⟩ | ⟨a, len, cap', m, fl, D, Pl, hcs, _, hl, hm, hmm, hx, hi⟩
  · simp only [List.cons.injEq, Value.slice.injEq, and_true] at hcs
    obtain ⟨_, rfl, _⟩ := hcs
    exact ⟨[], rfl, Elt.Rd.nil _ _ _ _, fun _ h => by simp at h, by simp [opSum]⟩
  · simp only [List.cons.injEq, Value.slice.injEq, and_true] at hcs
    obtain ⟨rfl, rfl, rfl⟩ := hcs
    rw [if_pos rfl] at hmm
    subst hmm
    simp only [Prod.mk.injEq] at hx
    obtain ⟨rfl, rfl⟩ := hx
    rw [cellsOp] at hi
    have each : ∀ i, ∃ o : Opv, i < n → (W.cells? 0 (a.add (i * 7)) 7 = some o.cs ∧ OpOk W o ∧ o.ln + 1 ≤ Rows.uptoBulk (D i)) := fun i => by
      by_cases hin : i < n
      · obtain ⟨cs', hc, htr⟩ := hi i (by omega)
        obtain ⟨o, rfl, ho, hb⟩ := op_of_trod htr (fun x hx => hlt x (List.mem_append_right _ (List.mem_flatMap.2 ⟨i, List.mem_range.2 (by omega), hx⟩)))
        exact ⟨o, fun _ => ⟨hc, ho, hb⟩⟩
      · exact ⟨⟨0, false, 0, none, 0, 0, Ans.zero, []⟩, fun h => absurd h hin⟩
    obtain ⟨F, hF⟩ := Classical.axiomOfChoice each
    refine ⟨(List.range n).map F, by simp, fun h0 => ?_, fun o ho => ?_, ?_⟩
    · have hn0 : 0 < n := by simpa using h0
      obtain ⟨b, off, sp⟩ := a
      have hsp : sp = none := by
        obtain ⟨_, hlen, hcell⟩ := World.cells?_some (hF 0 hn0).1
        have h1 := hcell 0 (by decide)
        have h2 : (0 : Nat) < (F 0).cs.length := by simp [Opv.cs]
        rw [List.getElem?_eq_getElem h2] at h1
        simpa [Addr.add] using cell_spot h1
      subst hsp
      have hbl : b < W.heap.size := hlt (.cell b off) (List.mem_append_left _ (by
        rw [cellsOp]
        exact List.mem_map.2 ⟨0, List.mem_range.2 (by omega), rfl⟩))
      refine ⟨b, off, rfl, hbl, fun i hi' j hj => ?_⟩
      have hin : i < n := by simpa using hi'
      obtain ⟨_, hlen, hcell⟩ := World.cells?_some (hF i hin).1
      have h1 := hcell j hj
      rw [add_add, addr_add] at h1
      rw [List.getElem_map, List.getElem_range]
      rw [← Nat.add_assoc] at h1
      exact h1
    · obtain ⟨i, hi', rfl⟩ := List.mem_map.1 ho
      exact (hF i (List.mem_range.1 hi')).2.1
    · have h1 := bulk_sum n D (fun i => (F i).ln + 1) (fun i hi' => (hF i hi').2.2)
      unfold opSum
      rw [List.map_map]
      simp only [Rows.uptoBulk]
      have : ((fun o : Opv => o.ln + 1) ∘ F) = fun i => (F i).ln + 1 := rfl
      rw [this]
      omega
end Go.Proofs.Ytlnhpeghgabnkaa
