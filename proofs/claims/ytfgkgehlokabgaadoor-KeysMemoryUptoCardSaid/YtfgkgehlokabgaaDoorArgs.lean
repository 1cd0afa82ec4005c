/-
  What the statements of layer 2 need of a list of parts that came in; the contracts at it.
-/
import Derived.Test.YtfgkgehlokabgaaDoorLives
namespace Go.Proofs.YtfgkgehlokabgaaDoor
open Go.RowKit

theorem SliceIs.mono {w : World} {B B' : Nat} {ad : Option Addr} {n : Nat} {L : Nat → PV} (h : SliceIs w B ad n L) (hB : B ≤ B') : SliceIs w B' ad n L := fun hn => by
  obtain ⟨b, off, e, hlt, hc⟩ := h hn
  exact ⟨b, off, e, Nat.lt_of_lt_of_le hlt hB, hc⟩
theorem SliceIs.later {w W : World} {ad : Option Addr} {n : Nat} {L : Nat → PV} (h : SliceIs w w.heap.size ad n L) (hb : Below w.heap.size w W) : SliceIs W W.heap.size ad n L :=
  (h.below hb (Nat.le_refl _)).mono hb.size
/-- A list of parts that came in: where it lies, and that it is small. -/
structure In (w : World) (ad : Option Addr) (n : Nat) (L : Nat → PV) : Prop where
  at_ : SliceIs w w.heap.size ad n L
  n_le : n ≤ 1099511627776
  ok : ∀ i, i < n → (L i).Ok
  key : (ks L n).length ≤ 1099511627776
theorem In.fine {w : World} {ad : Option Addr} {n : Nat} {L : Nat → PV} (h : In w ad n L) : ∀ p ∈ lst L n, Ky.fine p := fun p hp => by
  obtain ⟨i, hi, rfl⟩ := List.mem_map.1 hp
  exact (h.ok i (List.mem_range.1 hi)).fine
/-- A key as a text. -/
def keyS (L : Nat → PV) (n : Nat) : ByteArray := ⟨(ks L n).toArray⟩
theorem keyS_list (L : Nat → PV) (n : Nat) : (keyS L n).data.toList = ks L n := rfl
theorem join_at {w : World} {ad : Option Addr} {n : Nat} {L : Nat → PV} (h : In w ad n L) (cap : Nat) (x : ByteArray) (hx : Hid (keyS L n = x)) (W : World) (hb : Below w.heap.size w W) :
    Calls Tryd.prog 8 #[.slice ad n cap] W fun e w' => e = .returned (.string x) ∧ Below W.heap.size W w' := by
  rw [← hx.out]
  exact join_any ad n cap L h.n_le h.ok h.key W (h.at_.later hb)
theorem compare_at {w : World} {ad bd : Option Addr} {na nb : Nat} {A B : Nat → PV} (h : In w ad na A) (h' : In w bd nb B) (ca cb : Nat) (r : Int) (hr : Hid (Ky.cmpL (lst A na) (lst B nb) = r)) (W : World) (hb : Below w.heap.size w W) :
    Calls Tryd.prog 15 #[.slice ad na ca, .slice bd nb cb] W fun e w' => e = .returned (.int .i64 r) ∧ Below W.heap.size W w' := by
  rw [← hr.out]
  exact Compare_any ad bd na ca nb cb A B h.n_le h'.n_le W (h.at_.later hb) (h'.at_.later hb)
theorem same_at {w : World} {ad bd : Option Addr} {na nb : Nat} {A B : Nat → PV} (h : In w ad na A) (h' : In w bd nb B) (ca cb : Nat) (r : Bool) (hr : Hid (sameB A B na nb = r)) (W : World) (hb : Below w.heap.size w W) :
    Calls Tryd.prog 9 #[.slice ad na ca, .slice bd nb cb] W fun e w' => e = .returned (.bool r) ∧ Below W.heap.size W w' := by
  rw [← hr.out]
  by_cases e : na = nb
  · subst e
    exact same_eq ad bd na ca cb A B h.n_le W (h.at_.later hb) (h'.at_.later hb)
  · exact same_len ad bd na ca nb cb A B e W
end Go.Proofs.YtfgkgehlokabgaaDoor
