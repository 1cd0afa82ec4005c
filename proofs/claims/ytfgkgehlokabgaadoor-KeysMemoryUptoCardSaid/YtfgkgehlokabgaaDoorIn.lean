/-
  What an argument that is a list of parts gives: its parts, where they lie, that their key is short.
-/
import Derived.Test.YtfgkgehlokabgaaDoorRows
import Derived.Test.YtfgkgehlokabgaaDoorParts
import Derived.Test.YtfgkgehlokabgaaDoorArgs
import Derived.OpenShut
namespace Go.Proofs.YtfgkgehlokabgaaDoor
open Go.RowKit Go.ChangeShapes Go.WideShapes

def partD {H : Type} (p : PV) : DataW H := .agg [.lit (.bool p.num), .lit (.int .i64 p.n), .lit (.string p.s.data.toList)]
theorem bulk_part {H : Type} (p : PV) : Rows.uptoBulk (partD (H := H) p) = p.s.size + 4 := by
  simp [partD, Rows.uptoBulk, Rows.uptoBulkAll]
  omega
theorem bulk_append {H : Type} (l r : List (DataW H)) : Rows.uptoBulkAll (l ++ r) = Rows.uptoBulkAll l + Rows.uptoBulkAll r := by
  induction l with
  | nil => simp [Rows.uptoBulkAll]
  | cons x l ih => simp only [List.cons_append, Rows.uptoBulkAll, ih]; omega
theorem bulk_mem {H : Type} {d : DataW H} {l : List (DataW H)} (h : d ∈ l) : Rows.uptoBulk d ≤ Rows.uptoBulkAll l := by
  induction l with
  | nil => cases h
  | cons x r ih =>
    simp only [Rows.uptoBulkAll]
    rcases List.mem_cons.1 h with e | e
    · subst e; omega
    · have := ih e; omega
theorem form_le (p : PV) : (Ky.form p.toP).length ≤ 9 * (p.s.size + 4) := by
  obtain ⟨b, n, s⟩ := p
  cases b
  · rw [form_text]
    have := esc_le s.data.toList
    rw [size_toList] at this
    simp only [List.length_cons, List.length_append, List.length_nil]
    omega
  · rw [form_num, List.length_cons, Ky.be_length]
    omega
theorem ks_bulk {H : Type} (L : Nat → PV) : ∀ n, (ks L n).length ≤ 9 * Rows.uptoBulkAll ((List.range n).map fun i => partD (H := H) (L i)) ∧ n ≤ Rows.uptoBulkAll ((List.range n).map fun i => partD (H := H) (L i))
  | 0 => by simp [ks, lst, Ky.key]
  | n + 1 => by
    have ih := ks_bulk (H := H) L n
    rw [ks_succ, List.length_append, List.range_succ, List.map_append, bulk_append]
    have h := form_le (L n)
    have e : Rows.uptoBulkAll ((([n] : List Nat)).map fun i => partD (H := H) (L i)) = (L n).s.size + 4 := by
      simp only [List.map_cons, List.map_nil, Rows.uptoBulkAll, bulk_part]
    rw [e]
    omega
theorem in_of_trod_ks {H : Type} {enc : TypeId × Value → H} {W : World} {fuel : Nat} {ad : Option Addr} {n cap : Nat} {d : DataW H} {p : List MemPlace}
    (h : DataW.trod enc Tryd.prog W 0 (fun _ => true) true fuel 22 [.slice ad n cap] = some (d, p)) (hlt : ∀ x ∈ p, x.block < W.heap.size) (hb : Rows.uptoBulk d ≤ 1048576) : n ≤ cap ∧ ∃ L, In W ad n L ∧ (ks L n).length ≤ 9437184 := by
  rcases struct_slice Tryd.underlying22 Tryd.underlying39 (by kernel_rfl) (by kernel_rfl) (by decide) h with rfl | ⟨b, off, D, R, rfl, hl, hm, rfl, hps, hi⟩
  · exact ⟨by omega, fun _ => ⟨false, 0, ⟨#[]⟩⟩, ⟨fun h => absurd h (by omega), by omega, fun i hi => by omega, by rw [ks_L0]; decide⟩, by rw [ks_L0]; decide⟩
  · have hbl : b < W.heap.size := hlt _ hps
    have each : ∀ i, ∃ pv : PV, i < n → (D i = partD pv ∧ (-9223372036854775808 ≤ pv.n ∧ pv.n ≤ 9223372036854775807) ∧ W.cell? ⟨b, off + i * 3, none⟩ = some (.bool pv.num) ∧ W.cell? ⟨b, off + i * 3 + 1, none⟩ = some (.int .i64 pv.n) ∧ W.cell? ⟨b, off + i * 3 + 2, none⟩ = some (.string pv.s)) := fun i => by
      by_cases hin : i < n
      · obtain ⟨m, Y, hD, hF⟩ := hi i hin
        obtain ⟨v0, e0, t0⟩ := hF 0 _ rfl
        obtain ⟨v1, e1, t1⟩ := hF 1 _ rfl
        obtain ⟨v2, e2, t2⟩ := hF 2 _ rfl
        obtain ⟨x0, hx0, y0⟩ := DataW.trod_bool Tryd.underlying4 t0
        obtain ⟨x1, hx1, y1, wf⟩ := DataW.trod_int Tryd.underlying2 t1
        obtain ⟨x2, hx2, y2, _⟩ := DataW.trod_string Tryd.underlying9 t2
        have hbx := bounds_i64 wf
        obtain rfl : v0 = .bool x0 := by simpa using hx0
        obtain rfl : v1 = .int .i64 x1 := by simpa using hx1
        obtain rfl : v2 = .string x2 := by simpa using hx2
        refine ⟨⟨x0, x1, x2⟩, fun _ => ⟨?_, hbx, e0, e1, e2⟩⟩
        rw [hD]
        show DataW.agg ((List.range 3).map fun j => (Y j).1) = _
        simp only [List.range_succ, List.range_zero, List.nil_append, List.map_cons, List.map_nil, y0, y1, y2, List.cons_append, partD]
      · exact ⟨⟨false, 0, ⟨#[]⟩⟩, fun h => absurd h hin⟩
    obtain ⟨L, hL⟩ := Classical.axiomOfChoice each
    have hD : (List.range n).map D = (List.range n).map fun i => partD (L i) := List.map_congr_left fun i hi => (hL i (List.mem_range.1 hi)).1
    have hbk : Rows.uptoBulkAll ((List.range n).map fun i => partD (H := H) (L i)) ≤ 1048576 := by
      rw [← hD]
      simp only [Rows.uptoBulk] at hb
      omega
    have hks := ks_bulk (H := H) L n
    refine ⟨hl, L, ⟨fun _ => ⟨b, off, rfl, hbl, fun i hi => (hL i hi).2.2⟩, by omega, fun i hi => ?_, by omega⟩, by omega⟩
    have hm := bulk_mem (List.mem_map_of_mem (f := fun i => partD (H := H) (L i)) (List.mem_range.2 hi))
    rw [bulk_part] at hm
    obtain ⟨_, h1, _⟩ := hL i hi
    exact ⟨h1.1, h1.2, by omega⟩
theorem in_of_trod {H : Type} {enc : TypeId × Value → H} {W : World} {fuel : Nat} {ad : Option Addr} {n cap : Nat} {d : DataW H} {p : List MemPlace}
    (h : DataW.trod enc Tryd.prog W 0 (fun _ => true) true fuel 22 [.slice ad n cap] = some (d, p)) (hlt : ∀ x ∈ p, x.block < W.heap.size) (hb : Rows.uptoBulk d ≤ 1048576) : n ≤ cap ∧ ∃ L, In W ad n L := by
  obtain ⟨h1, L, h2, _⟩ := in_of_trod_ks h hlt hb
  exact ⟨h1, L, h2⟩
theorem none_of_trod {H : Type} {enc : TypeId × Value → H} {W : World} {fuel : Nat} {ad : Option Addr} {n cap : Nat} {d : DataW H} {p : List MemPlace}
    (h : DataW.trod enc Tryd.prog W 0 (fun _ => true) true fuel 22 [.slice ad n cap] = some (d, p)) : ad = none → n = 0 ∧ cap = 0 := by
  rcases Go.Deep.open_slice Tryd.underlying22 h with ⟨hcs, _⟩ | ⟨a, len, cap', m, fl, D, Pl, hcs, _⟩
  · simp only [List.cons.injEq, Value.slice.injEq, and_true] at hcs
    exact fun _ => hcs.2
  · simp only [List.cons.injEq, Value.slice.injEq, and_true] at hcs
    exact fun e => by rw [hcs.1] at e; cases e
theorem bulk_string {H : Type} (s : ByteArray) : s.size ≤ Rows.uptoBulk (H := H) (.lit (.string s.data.toList)) := by
  simp [Rows.uptoBulk]
end Go.Proofs.YtfgkgehlokabgaaDoor
