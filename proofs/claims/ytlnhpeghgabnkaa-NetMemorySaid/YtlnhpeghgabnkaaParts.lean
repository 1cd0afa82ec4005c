/-
  An argument that is a slice of structs of one-cell fields: its cells, and how each reads. No statement of the seat is proved here.
-/
import Derived.Test.YtlnhpeghgabnkaaProg
import Derived.Deep.Fields
import Derived.ChangeSame
import Derived.ChangeArms
namespace Go.Proofs.Ytlnhpeghgabnkaa
open Go.Deep Go.ChangeShapes Go.WideShapes

theorem cell_spot {w : World} {a : Addr} {v : Value} (h : w.cell? a = some v) : a.spot = none := by
  cases hs : a.spot with
  | none => rfl
  | some k =>
    unfold World.cell? at h
    split at h
    · simp [hs] at h
    · cases h
theorem addr_add (b off n : Nat) : (Addr.add ⟨b, off, none⟩ n) = ⟨b, off + n, none⟩ := by unfold Addr.add; split <;> simp_all
theorem struct_slice {H : Type} {enc : TypeId × Value → H} {P : Program} {w : World} {base : Nat} {held : Bool} {t e : TypeId} {fs : Array Field} {fuel : Nat} {ad : Option Addr} {n cap : Nat} {d : DataW H} {ps : List MemPlace}
    (ht : P.underlying t = some (.slice e)) (he : P.underlying e = some (.struct fs)) (hone : oneCellFields P fs = true) (hC : P.cellsOf e = fs.size) (hpos : 0 < fs.size)
    (h : DataW.trod enc P w base (fun _ => true) held fuel t [.slice ad n cap] = some (d, ps)) :
    n = 0 ∨ ∃ (b off : Nat) (D : Nat → DataW H) (R : List (DataW H)), ad = some ⟨b, off, none⟩ ∧ n ≤ cap ∧ cap ≤ maxLen ∧ d = .slice ((List.range n).map D) R ∧ MemPlace.cell b off ∈ ps ∧
      ∀ i, i < n → ∃ (m : Nat) (Y : Nat → DataW H × List MemPlace), D i = .agg ((List.range fs.size).map fun j => (Y j).1) ∧
        ∀ (j : Nat) (f : Field), fs[j]? = some f → ∃ v, w.cell? ⟨b, off + i * fs.size + j, none⟩ = some v ∧ DataW.trod enc P w base (fun _ => true) held m f.type [v] = some (Y j) := by
  rcases open_slice ht h with ⟨hcs, _⟩ | ⟨a, len, cap', m, fl, D, Pl, hcs, _, hl, hm, hmm, hx, hi⟩
  · simp only [List.cons.injEq, Value.slice.injEq, and_true] at hcs
    exact .inl hcs.2.1
  · simp only [List.cons.injEq, Value.slice.injEq, and_true] at hcs
    obtain ⟨rfl, rfl, rfl⟩ := hcs
    rw [if_pos rfl] at hmm
    subst hmm
    simp only [Prod.mk.injEq] at hx
    obtain ⟨rfl, rfl⟩ := hx
    rw [hC] at hi
    rcases Nat.eq_zero_or_pos n with h0 | h0
    · exact .inl h0
    · right
      obtain ⟨b, off, sp⟩ := a
      have hsp : sp = none := by
        obtain ⟨cs', hc, _⟩ := hi 0 (by omega)
        obtain ⟨_, hlen, hcell⟩ := World.cells?_some hc
        have h1 := hcell 0 hpos
        have h2 : (0 : Nat) < cs'.length := by omega
        rw [List.getElem?_eq_getElem h2] at h1
        simpa [Addr.add] using cell_spot h1
      subst hsp
      refine ⟨b, off, D, _, rfl, hl, hm, rfl, ?_, fun i hin => ?_⟩
      · refine List.mem_append_left _ ?_
        rw [hC]
        refine List.mem_map.2 ⟨0, List.mem_range.2 (Nat.mul_pos (by omega) hpos), rfl⟩
      · obtain ⟨cs', hc, htr⟩ := hi i (by omega)
        obtain ⟨_, hlen, hcell⟩ := World.cells?_some hc
        obtain ⟨ys, n', _, hy, _, hyl, hf⟩ := DataW.trod_struct he htr
        simp only [Prod.mk.injEq] at hy
        refine ⟨n', fun j => ys.getD j default, ?_, fun j f hj => ?_⟩
        · rw [hy.1]
          congr 1
          refine List.ext_getElem (by simp [hyl]) fun j h1 h2 => ?_
          have hj : j < ys.length := by simpa using h1
          simp [List.getD_eq_getElem?_getD, List.getElem?_eq_getElem hj]
        · obtain ⟨ho, hk⟩ := hone_of hone j f hj
          have hjl : j < fs.size := (Array.getElem?_eq_some_iff.1 hj).1
          have hjc : j < cs'.length := by omega
          have h1 := hcell j hjl
          rw [List.getElem?_eq_getElem hjc, add_add, addr_add] at h1
          have h2 := hf j f hj
          rw [ho, hk, take1_drop cs' j .nilIface hjc] at h2
          have hg : cs'.getD j .nilIface = cs'[j] := by simp [List.getD_eq_getElem?_getD, List.getElem?_eq_getElem hjc]
          have hjy : j < ys.length := by omega
          refine ⟨cs'[j], by rw [Nat.add_assoc]; exact h1, ?_⟩
          rw [← hg, h2]
          simp [List.getD_eq_getElem?_getD, List.getElem?_eq_getElem hjy]
end Go.Proofs.Ytlnhpeghgabnkaa
