/-
  What an argument that is a list of rows gives: its rows, where they lie, how many, how long their texts.
-/
import Derived.Test.YtiffjjophmgdlaaRows
import Derived.Test.YtiffjjophmgdlaaParts
import Derived.Test.YtiffjjophmgdlaaOf
import Derived.OpenShut
namespace Go.Proofs.Ytiffjjophmgdlaa
open Go.RowKit Go.ChangeShapes Go.WideShapes Tb

theorem reach_at {H : Type} {P : Program} : ∀ {ts : List TypeId} {ds : List (DataW H)}, (DataW.weightsEach P ts ds).all (· ≤ reachBytes) = true → ∀ (j : Nat) {t : TypeId} {d : DataW H}, ts[j]? = some t → ds[j]? = some d → ∀ x ∈ d.weights P t, x ≤ reachBytes
  | [], _, _, j, _, _, ht, _ => by simp at ht
  | _ :: _, [], _, j, _, _, _, hd => by simp at hd
  | t0 :: ts, d0 :: ds, hz, j, t, d, ht, hd => by
    rw [DataW.weightsEach, List.all_append, Bool.and_eq_true] at hz
    cases j with
    | zero =>
      simp only [List.getElem?_cons_zero, Option.some.injEq] at ht hd
      subst ht hd
      exact fun x hx => of_decide_eq_true (List.all_eq_true.1 hz.1 x hx)
    | succ j => exact reach_at hz.2 j (by simpa using ht) (by simpa using hd)
theorem weights_mem {H : Type} {P : Program} {e : TypeId} : ∀ {l : List (DataW H)} {d : DataW H}, d ∈ l → ∀ x ∈ d.weights P e, x ∈ DataW.weightsAll P e l
  | d0 :: l, d, h, x, hx => by
    rw [DataW.weightsAll, List.mem_append]
    rcases List.mem_cons.1 h with rfl | h
    · exact .inl hx
    · exact .inr (weights_mem h x hx)
theorem rows_of_trod {H : Type} {enc : TypeId × Value → H} {W : World} {fuel : Nat} {ad : Option Addr} {n cap : Nat} {d : DataW H} {p : List MemPlace}
    (h : DataW.trod enc Try.prog W 0 (fun _ => true) true fuel 22 [.slice ad n cap] = some (d, p)) (hlt : ∀ x ∈ p, x.block < W.heap.size) (hw : ∀ x ∈ d.weights Try.prog 22, x ≤ reachBytes) :
    n ≤ 4398046511104 ∧ ∃ l : List Rw, RdS W ad n cap l ∧ Sz l := by
  have hnil : ad = none → n = 0 ∧ cap = 0 := by
    rcases Go.Deep.open_slice Try.underlying22 h with ⟨hcs, _⟩ | ⟨a, len, cap', m, fl, D, Pl, hcs, _⟩
    · simp only [List.cons.injEq, Value.slice.injEq, and_true] at hcs
      exact fun _ => hcs.2
    · simp only [List.cons.injEq, Value.slice.injEq, and_true] at hcs
      exact fun e => by rw [hcs.1] at e; cases e
  have hle : n ≤ cap := by
    rcases Go.Deep.open_slice Try.underlying22 h with ⟨hcs, _⟩ | ⟨a, len, cap', m, fl, D, Pl, hcs, _, hl, _⟩
    · simp only [List.cons.injEq, Value.slice.injEq, and_true] at hcs
      omega
    · simp only [List.cons.injEq, Value.slice.injEq, and_true] at hcs
      obtain ⟨_, rfl, rfl⟩ := hcs
      exact hl
  rcases struct_slice Try.underlying22 Try.underlying25 (by kernel_rfl) (by kernel_rfl) (by decide) h with rfl | ⟨b, off, D, R, rfl, hl, hm, rfl, hps, hi⟩
  · exact ⟨by omega, [], ⟨rfl, Elt.Rd.nil _ _ _ _, fun e => (hnil e).2, hle⟩, fun r hr => by cases hr⟩
  · have hbl : b < W.heap.size := hlt _ hps
    have hby : Try.prog.bytesOf 25 = 32 := by kernel_rfl
    unfold DataW.weights at hw
    rw [Try.underlying22] at hw
    dsimp only at hw
    rw [hby] at hw
    have hn : n ≤ 4398046511104 := by
      have := hw _ (List.mem_cons_self ..)
      simp only [List.length_map, List.length_range, reachBytes] at this
      omega
    have each : ∀ i, ∃ r : Rw, i < n → (∀ j, j < 2 → W.cell? ⟨b, off + i * 2 + j, none⟩ = (csR r)[j]?) ∧ r.1.size ≤ 140737488355328 ∧ r.2.size ≤ 140737488355328 := fun i => by
      by_cases hin : i < n
      · obtain ⟨m, Y, hD, hF⟩ := hi i hin
        obtain ⟨v0, e0, t0⟩ := hF 0 _ rfl
        obtain ⟨v1, e1, t1⟩ := hF 1 _ rfl
        obtain ⟨x0, hx0, y0, _⟩ := DataW.trod_string Try.underlying9 t0
        obtain ⟨x1, hx1, y1, _⟩ := DataW.trod_string Try.underlying9 t1
        obtain rfl : v0 = .string x0 := by simpa using hx0
        obtain rfl : v1 = .string x1 := by simpa using hx1
        have hmem : D i ∈ (List.range n).map D := List.mem_map.2 ⟨i, List.mem_range.2 hin, rfl⟩
        have hsub : ∀ x ∈ (D i).weights Try.prog 25, x ≤ reachBytes := fun x hx => hw x (List.mem_cons_of_mem _ (List.mem_append_left _ (weights_mem hmem x hx)))
        have hD2 : D i = .agg [(Y 0).1, (Y 1).1] := hD
        rw [hD2, y0, y1] at hsub
        unfold DataW.weights at hsub
        rw [Try.underlying25] at hsub
        simp only [DataW.weightsEach, DataW.weights, List.map_cons, List.map_nil, List.append_nil] at hsub
        refine ⟨(x0, x1), fun _ => ⟨fun j hj => ?_, ?_, ?_⟩⟩
        · rcases (by omega : j = 0 ∨ j = 1) with rfl | rfl
          · exact e0
          · exact e1
        · have := hsub x0.data.toList.length (by simp)
          simp only [Array.length_toList, ByteArray.size_data, reachBytes] at this
          exact Nat.le_trans this (by decide)
        · have := hsub x1.data.toList.length (by simp)
          simp only [Array.length_toList, ByteArray.size_data, reachBytes] at this
          exact Nat.le_trans this (by decide)
      · exact ⟨(⟨#[]⟩, ⟨#[]⟩), fun h => absurd h hin⟩
    obtain ⟨L, hL⟩ := Classical.axiomOfChoice each
    refine ⟨hn, (List.range n).map L, ⟨by simp, fun _ => ⟨b, off, rfl, hbl, fun i hi j hj => ?_⟩, fun e => (hnil e).2, hle⟩, fun r hr => ?_⟩
    · have hin : i < n := by simpa using hi
      rw [List.getElem_map, List.getElem_range]
      exact (hL i hin).1 j hj
    · obtain ⟨i, hi, rfl⟩ := List.mem_map.1 hr
      exact (hL i (List.mem_range.1 hi)).2
end Go.Proofs.Ytiffjjophmgdlaa
