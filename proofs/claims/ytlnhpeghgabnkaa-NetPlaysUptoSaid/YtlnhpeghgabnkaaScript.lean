/-
  Layer 25: a script's operations in memory.
-/
import Derived.Test.YtlnhpeghgabnkaaMem
namespace Go.Proofs.Ytlnhpeghgabnkaa
open Go.RowKit

/-- An operation as it lies: its cells; its list's messages. -/
structure Opv where
  k : Int
  s : Bool
  i : Int
  la : Option Addr
  ln : Nat
  lc : Nat
  a : Ans
  ms : List Msg
def Opv.cs (o : Opv) : List Value := [.int .i64 o.k, .bool o.s, .int .i64 o.i, .slice o.la o.ln o.lc, .int .i64 o.a.r, .int .i64 o.a.k, .string o.a.t]
noncomputable def EO : Elt Try.prog Opv := Elt.of 22 31 7 80 Opv.cs (.agg #[.int .i64 0, .bool false, .int .i64 0, .slice none 0 0, .int .i64 0, .int .i64 0, .string ⟨#[]⟩]) Try.underlying22 (by kernel_rfl) rfl (by decide) (by decide) (fun _ => rfl)
  (fun x u hu => by simp only [Opv.cs, List.mem_cons, List.not_mem_nil, or_false] at hu; rcases hu with rfl | rfl | rfl | rfl | rfl | rfl | rfl <;> rfl)
/-- What holds of an operation's list. -/
structure OpOk (w : World) (o : Opv) : Prop where
  len : o.ms.length = o.ln
  rd : EM.Rd w w.heap.size o.la o.ms
  nil : o.la = none → o.lc = 0
  le : o.ln ≤ o.lc
def opSum (l : List Opv) : Nat := (l.map fun o => o.ln + 1).sum
theorem opSum_take (l : List Opv) (k : Nat) (o : Opv) (h : l[k]? = some o) : opSum (l.take (k + 1)) = opSum (l.take k) + (o.ln + 1) := by
  obtain ⟨h1, rfl⟩ := List.getElem?_eq_some_iff.1 h
  unfold opSum
  rw [List.take_succ_eq_append_getElem h1, List.map_append, List.sum_append]
  simp
theorem opSum_le (l : List Opv) (k : Nat) : opSum (l.take k) ≤ opSum l := by
  unfold opSum
  conv => rhs; rw [← List.take_append_drop k l, List.map_append, List.sum_append]
  omega
theorem rdO {w : World} {B : Nat} {ad : Option Addr} {l : List Opv} (h : EO.Rd w B ad l) (i : Nat) (o : Opv) (hi : l[i]? = some o) : ∃ b off, ad = some ⟨b, off, none⟩ ∧ b < B ∧
    w.cell? ⟨b, off + i * 7, none⟩ = some (.int .i64 o.k) ∧ w.cell? ⟨b, off + i * 7 + 1, none⟩ = some (.bool o.s) ∧ w.cell? ⟨b, off + i * 7 + 2, none⟩ = some (.int .i64 o.i) ∧ w.cell? ⟨b, off + i * 7 + 3, none⟩ = some (.slice o.la o.ln o.lc) ∧
    w.cell? ⟨b, off + i * 7 + 4, none⟩ = some (.int .i64 o.a.r) ∧ w.cell? ⟨b, off + i * 7 + 5, none⟩ = some (.int .i64 o.a.k) ∧ w.cell? ⟨b, off + i * 7 + 6, none⟩ = some (.string o.a.t) := by
  obtain ⟨hl, rfl⟩ := List.getElem?_eq_some_iff.1 hi
  obtain ⟨b, off, e, hb, hc⟩ := h (by omega)
  exact ⟨b, off, e, hb, hc i hl 0 (by decide), hc i hl 1 (by decide), hc i hl 2 (by decide), hc i hl 3 (by decide), hc i hl 4 (by decide), hc i hl 5 (by decide), hc i hl 6 (by decide)⟩
theorem eraseIdx_perm (l : List Pk) (j : Nat) (p : Pk) (h : l[j]? = some p) : List.Perm l (p :: l.eraseIdx j) := by
  obtain ⟨h1, rfl⟩ := List.getElem?_eq_some_iff.1 h
  rw [List.eraseIdx_eq_take_drop_succ]
  conv => lhs; rw [← List.take_append_drop j l, List.drop_eq_getElem_cons h1]
  exact List.perm_middle
end Go.Proofs.Ytlnhpeghgabnkaa
