/-
  Walks over statements of layer 2: there and back.
-/
import Derived.Test.YtfgkgehlokabgaaDoorSplit
import Derived.LaidEql
namespace Go.Proofs.YtfgkgehlokabgaaDoor
open Go.RowKit

/-- A list of parts as they lie in memory. -/
def lof (ps : List Ky.Part) (i : Nat) : PV := match ps[i]? with
  | some p => ⟨p.num, p.n, ⟨p.s.toArray⟩⟩
  | none => ⟨false, 0, ⟨#[]⟩⟩
theorem lof_toP (ps : List Ky.Part) (i : Nat) (h : i < ps.length) : (lof ps i).toP = ps[i] := by
  unfold lof
  rw [List.getElem?_eq_getElem h]
  rfl
theorem lst_lof (ps : List Ky.Part) (n : Nat) (h : ps.length = n) : lst (lof ps) n = ps := by
  subst h
  refine List.ext_getElem (by simp [lst]) fun i h1 h2 => ?_
  simp only [lst, List.getElem_map, List.getElem_range]
  exact lof_toP ps i h2
theorem ks_lof (ps : List Ky.Part) (n : Nat) (h : ps.length = n) : ks (lof ps) n = Ky.key ps := by unfold ks; rw [lst_lof ps n h]
theorem form_pos' (p : Ky.Part) : 0 < (Ky.form p).length := List.length_pos_iff.2 (Ky.form_ne_nil p)
theorem flat3 : ∀ (ps : List Ky.Part) (i j : Nat) (hi : i < ps.length) (_ : j < 3), (ps.flatMap cellsP)[i * 3 + j]? = (cellsP ps[i])[j]?
  | p :: ps, 0, j, _, hj => by
    rw [List.flatMap_cons, Nat.zero_mul, Nat.zero_add, List.getElem?_append_left (by show j < 3; omega)]
    rfl
  | p :: ps, i + 1, j, hi, hj => by
    rw [List.flatMap_cons, List.getElem?_append_right (by show 3 ≤ _; omega)]
    have e : (i + 1) * 3 + j - (cellsP p).length = i * 3 + j := by show (i + 1) * 3 + j - 3 = _; omega
    rw [e, flat3 ps i j (by simpa using hi) hj]
    rfl
theorem esc_ge (t : List UInt8) : t.length ≤ (Ky.esc t).length := by
  induction t with
  | nil => simp
  | cons d t ih => by_cases h : d = 0 <;> simp [Ky.esc, h] <;> omega
theorem key_ge (ps : List Ky.Part) (hc : ∀ p ∈ ps, Ky.norm p = p) : ps.length ≤ (Ky.key ps).length ∧ ∀ p ∈ ps, p.s.length ≤ (Ky.key ps).length := by
  induction ps with
  | nil => simp
  | cons p ps ih =>
    obtain ⟨h1, h2⟩ := ih fun q hq => hc q (by simp [hq])
    have h3 := form_pos' p
    have h4 : p.s.length ≤ (Ky.form p).length := by
      have hn := Ky.norm_clean p (hc p (by simp))
      cases hp : p.num
      · have := esc_ge p.s
        simp [Ky.form, hp]
        omega
      · rw [hn.1 hp]; simp
    rw [Ky.key_cons, List.length_append, List.length_cons]
    refine ⟨by omega, fun q hq => ?_⟩
    rcases List.mem_cons.1 hq with rfl | hq
    · omega
    · have := h2 q hq; omega
theorem isKey_norm (L : Nat → PV) (n : Nat) (h : ∀ p ∈ lst L n, Ky.fine p) : Ky.IsKey (ks L n) ((lst L n).map Ky.norm) := by
  refine ⟨Ky.key_norm _, fun p hp => ?_, fun p hp => ?_⟩
  · obtain ⟨q, _, rfl⟩ := List.mem_map.1 hp
    exact Ky.norm_norm q
  · obtain ⟨q, hq, rfl⟩ := List.mem_map.1 hp
    have := h q hq
    unfold Ky.fine Ky.norm at *
    cases hn : q.num <;> simp_all
theorem isKey_append {l l' : List UInt8} {ps qs : List Ky.Part} (h : Ky.IsKey l ps) (h' : Ky.IsKey l' qs) : Ky.IsKey (l ++ l') (ps ++ qs) := by
  refine ⟨by rw [Ky.key_append, h.1, h'.1], fun p hp => ?_, fun p hp => ?_⟩
  · rcases List.mem_append.1 hp with hp | hp
    · exact h.2.1 p hp
    · exact h'.2.1 p hp
  · rcases List.mem_append.1 hp with hp | hp
    · exact h.2.2 p hp
    · exact h'.2.2 p hp
/-- What Split answers, as a list that came in. -/
theorem own_in {w : World} {B : Nat} {v : Value} {l : List UInt8} {ps : List Ky.Part} (ho : OwnP w B v ps) (hk : Ky.IsKey l ps) (hl : l.length ≤ 1073741824) (n : Nat) (hn : ps.length = n) :
    ∃ ad cap, v = .slice ad n cap ∧ n ≤ cap ∧ In w ad n (lof ps) ∧ (0 < n → ∃ g, ad = some ⟨g, 0, none⟩) := by
  subst hn
  obtain ⟨h1, h2⟩ := key_ge ps hk.2.1
  rw [hk.1] at h1 h2
  have hok : ∀ i, i < ps.length → (lof ps i).Ok := fun i hi => by
    have hm := List.getElem_mem hi
    have hf := hk.2.2 _ hm
    have hs := h2 _ hm
    have hc := Ky.norm_clean _ (hk.2.1 _ hm)
    unfold lof
    rw [List.getElem?_eq_getElem hi]
    refine ⟨?_, ?_, ?_⟩
    · cases hp : ps[i].num
      · show _ ≤ ps[i].n; rw [hc.2 hp]; omega
      · exact (hf hp).1
    · cases hp : ps[i].num
      · show ps[i].n ≤ _; rw [hc.2 hp]; omega
      · exact (hf hp).2
    · show ps[i].s.toArray.size ≤ _
      simp
      omega
  have hkey : (ks (lof ps) ps.length).length ≤ 1099511627776 := by rw [ks_lof ps _ rfl, hk.1]; omega
  rcases ho.2 with ⟨rfl, h0⟩ | ⟨g, cap, cur, rfl, _, hh, hle, hcap, hsz, htk⟩
  · refine ⟨none, 0, by rw [h0], by omega, ⟨fun h => absurd h (by omega), by omega, hok, hkey⟩, fun h => absurd h (by omega)⟩
  · refine ⟨_, cap, rfl, hle, ⟨fun _ => ⟨g, 0, rfl, Blk.lt (t := 39) (cs := cur) hh, fun i hi => ?_⟩, by omega, hok, hkey⟩, fun _ => ⟨g, rfl⟩⟩
    have hc : ∀ j, j < 3 → w.cell? ⟨g, 0 + i * 3 + j, none⟩ = (ps.flatMap cellsP)[i * 3 + j]? := fun j hj => by
      rw [Nat.zero_add, cell_of_row w g (i * 3 + j) cur 39 (0, 0) hh, ← htk, List.getElem?_take, if_pos (by omega)]
      simp
    have hf : ∀ j, j < 3 → (ps.flatMap cellsP)[i * 3 + j]? = (cellsP ps[i])[j]? := fun j hj => flat3 ps i j hi hj
    have e : lof ps i = ⟨ps[i].num, ps[i].n, ⟨ps[i].s.toArray⟩⟩ := by unfold lof; rw [List.getElem?_eq_getElem hi]
    rw [e]
    exact ⟨(hc 0 (by omega)).trans (hf 0 (by omega)), (hc 1 (by omega)).trans (hf 1 (by omega)), (hc 2 (by omega)).trans (hf 2 (by omega))⟩
theorem In.later {w W : World} {ad : Option Addr} {n : Nat} {L : Nat → PV} (h : In w ad n L) (hb : Below w.heap.size w W) : In W ad n L := ⟨h.at_.later hb, h.n_le, h.ok, h.key⟩
theorem In.take {w : World} {ad : Option Addr} {n m : Nat} {L : Nat → PV} (h : In w ad n L) (hm : m ≤ n) : In w ad m L :=
  ⟨fun h0 => by
    obtain ⟨b, off, e, hb, hc⟩ := h.at_ (by omega)
    exact ⟨b, off, e, hb, fun i hi => hc i (by omega)⟩, Nat.le_trans hm h.n_le, fun i hi => h.ok i (by omega), Nat.le_trans (ks_le L hm) h.key⟩
theorem ks_split_le (L : Nat → PV) (m n : Nat) : (ks (fun i => L (m + i)) n).length ≤ (ks L (m + n)).length := by
  unfold ks
  rw [lst_split L (show m ≤ m + n by omega), Ky.key_append, List.length_append, Nat.add_sub_cancel_left]
  omega
theorem In.drop_some {w : World} {g m n : Nat} {L : Nat → PV} (h : In w (some ⟨g, 0, none⟩) (m + n) L) : In w (some ⟨g, m * 3, none⟩) n (fun i => L (m + i)) :=
  ⟨fun h0 => by
    obtain ⟨b, off, e, hb, hc⟩ := h.at_ (by omega)
    injection e with e
    injection e with e1 e2
    subst e1 e2
    refine ⟨g, m * 3, rfl, hb, fun i hi => ?_⟩
    have := hc (m + i) (by omega)
    rw [Nat.zero_add, Nat.add_mul] at this
    exact this, Nat.le_trans (by omega) h.n_le, fun i hi => h.ok (m + i) (by omega), Nat.le_trans (ks_split_le L m n) h.key⟩
theorem In.zero (w : World) (ad : Option Addr) (L : Nat → PV) : In w ad 0 L := ⟨fun h => absurd h (by omega), by omega, fun i hi => by omega, by rw [ks_L0]; decide⟩
end Go.Proofs.YtfgkgehlokabgaaDoor
