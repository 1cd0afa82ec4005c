/-
  Walks over statements of layer 2: order.
-/
import Derived.Test.YtfgkgehlokabgaaLives
namespace Go.Proofs.Ytfgkgehlokabgaa
open Go.RowKit

theorem SliceIs.mono {w : World} {B B' : Nat} {ad : Option Addr} {n : Nat} {L : Nat → PV} (h : SliceIs w B ad n L) (hB : B ≤ B') : SliceIs w B' ad n L := fun hn => by
  obtain ⟨b, off, e, hlt, hc⟩ := h hn
  exact ⟨b, off, e, Nat.lt_of_lt_of_le hlt hB, hc⟩
theorem SliceIs.later {w W : World} {ad : Option Addr} {n : Nat} {L : Nat → PV} (h : SliceIs w w.heap.size ad n L) (hb : Below w.heap.size w W) : SliceIs W W.heap.size ad n L :=
  (h.below hb (Nat.le_refl _)).mono hb.size
/-- A list of parts that came in: where it lies, and that it is small. -/
structure In (w : World) (ad : Option Addr) (n : Nat) (L : Nat → PV) : Prop where
  at_ : SliceIs w w.heap.size ad n L
  n_le : n ≤ 1099511627776
  ok : ∀ i, i < n → (L i).Ok
  key : (ks L n).length ≤ 1099511627776
theorem In.fine {w : World} {ad : Option Addr} {n : Nat} {L : Nat → PV} (h : In w ad n L) : ∀ p ∈ lst L n, Ky.fine p := fun p hp => by
  obtain ⟨i, hi, rfl⟩ := List.mem_map.1 hp
  exact (h.ok i (List.mem_range.1 hi)).fine
/-- A key as a text. -/
def keyS (L : Nat → PV) (n : Nat) : ByteArray := ⟨(ks L n).toArray⟩
theorem keyS_list (L : Nat → PV) (n : Nat) : (keyS L n).data.toList = ks L n := rfl
theorem join_at {w : World} {ad : Option Addr} {n : Nat} {L : Nat → PV} (h : In w ad n L) (cap : Nat) (x : ByteArray) (hx : Hid (keyS L n = x)) (W : World) (hb : Below w.heap.size w W) :
    Calls Try.prog 9 #[.slice ad n cap] W fun e w' => e = .returned (.string x) ∧ Below W.heap.size W w' := by
  rw [← hx.out]
  exact join_any ad n cap L h.n_le h.ok h.key W (h.at_.later hb)
theorem compare_at {w : World} {ad bd : Option Addr} {na nb : Nat} {A B : Nat → PV} (h : In w ad na A) (h' : In w bd nb B) (ca cb : Nat) (r : Int) (hr : Hid (Ky.cmpL (lst A na) (lst B nb) = r)) (W : World) (hb : Below w.heap.size w W) :
    Calls Try.prog 14 #[.slice ad na ca, .slice bd nb cb] W fun e w' => e = .returned (.int .i64 r) ∧ Below W.heap.size W w' := by
  rw [← hr.out]
  exact Compare_any ad bd na ca nb cb A B h.n_le h'.n_le W (h.at_.later hb) (h'.at_.later hb)
theorem same_at {w : World} {ad bd : Option Addr} {na nb : Nat} {A B : Nat → PV} (h : In w ad na A) (h' : In w bd nb B) (ca cb : Nat) (r : Bool) (hr : Hid (sameB A B na nb = r)) (W : World) (hb : Below w.heap.size w W) :
    Calls Try.prog 7 #[.slice ad na ca, .slice bd nb cb] W fun e w' => e = .returned (.bool r) ∧ Below W.heap.size W w' := by
  rw [← hr.out]
  by_cases e : na = nb
  · subst e
    exact same_eq ad bd na ca cb A B h.n_le W (h.at_.later hb) (h'.at_.later hb)
  · exact same_len ad bd na ca nb cb A B e W
theorem range3 {r : Int} (h : r = -1 ∨ r = 0 ∨ r = 1) : -1 ≤ r ∧ r ≤ 1 := by omega
set_option maxRecDepth 100000 in
set_option maxHeartbeats 8000000 in
theorem order_law (ad bd cd : Option Addr) (na ca nb cb nc cc : Nat) (A B C : Nat → PV) (w : World) (hA : In w ad na A) (hB : In w bd nb B) (hC : In w cd nc C) :
    Calls Try.prog 5 #[.slice ad na ca, .slice bd nb cb, .slice cd nc cc] w fun e w' => e = .returned (.bool true) ∧ Below w.heap.size w w' := by
  obtain ⟨x, hx⟩ : ∃ t, Hid (keyS A na = t) := ⟨_, Lib.hid rfl⟩
  obtain ⟨y, hy⟩ : ∃ t, Hid (keyS B nb = t) := ⟨_, Lib.hid rfl⟩
  obtain ⟨z, hz⟩ : ∃ t, Hid (keyS C nc = t) := ⟨_, Lib.hid rfl⟩
  obtain ⟨ab, hab⟩ : ∃ r, Hid (Ky.cmpL (lst A na) (lst B nb) = r) := ⟨_, Lib.hid rfl⟩
  obtain ⟨bc, hbc⟩ : ∃ r, Hid (Ky.cmpL (lst B nb) (lst C nc) = r) := ⟨_, Lib.hid rfl⟩
  obtain ⟨ac, hac⟩ : ∃ r, Hid (Ky.cmpL (lst A na) (lst C nc) = r) := ⟨_, Lib.hid rfl⟩
  have hba : Hid (Ky.cmpL (lst B nb) (lst A na) = -ab) := Lib.hid (by rw [Ky.cmpL_anti (lst A na) (lst B nb), hab.out])
  have haa : Hid (Ky.cmpL (lst A na) (lst A na) = 0) := Lib.hid ((Ky.cmpL_zero _ _).2 rfl)
  have hsm : Hid (sameB A B na nb = decide (ab = 0)) := by
    have : sameB A B na nb = decide (ab = 0) := by
      unfold sameB
      rw [← hab.out]
      exact decide_eq_decide.2 (Ky.cmpL_zero _ _).symm
    exact Lib.hid this
  have k1 := Ky.key_order (lst A na) (lst B nb) hA.fine hB.fine
  have k2 := Ky.key_order (lst B nb) (lst C nc) hB.fine hC.fine
  have k3 := Ky.key_order (lst A na) (lst C nc) hA.fine hC.fine
  rw [hab.out] at k1
  rw [hbc.out] at k2
  rw [hac.out] at k3
  have htr := hide (Ky.cmpL_trans (lst A na) (lst B nb) (lst C nc) hA.fine hB.fine hC.fine)
  rw [hab.out, hbc.out, hac.out] at htr
  have r1 := Lib.hid (Ky.cmpL_range (lst A na) (lst B nb))
  have r2 := Lib.hid (Ky.cmpL_range (lst B nb) (lst C nc))
  have r3 := Lib.hid (Ky.cmpL_range (lst A na) (lst C nc))
  rw [hab.out] at r1
  rw [hbc.out] at r2
  rw [hac.out] at r3
  have F1 : Hid (Op.bytesLess x.toList y.toList = decide (ab < 0)) := by rw [← hx.out, ← hy.out, ByteArray.toList_eq, ByteArray.toList_eq]; exact Lib.hid k1.1
  have F2 : Hid ((x.toList == y.toList) = decide (ab = 0)) := by rw [← hx.out, ← hy.out, ByteArray.toList_eq, ByteArray.toList_eq]; exact Lib.hid k1.2
  have F3 : Hid (Op.bytesLess y.toList z.toList = decide (bc < 0)) := by rw [← hy.out, ← hz.out, ByteArray.toList_eq, ByteArray.toList_eq]; exact Lib.hid k2.1
  have F4 : Hid (Op.bytesLess x.toList z.toList = decide (ac < 0)) := by rw [← hx.out, ← hz.out, ByteArray.toList_eq, ByteArray.toList_eq]; exact Lib.hid k3.1
  have b1 := range3 r1.out
  have J1 := hide fun W hb => join_at hA ca x hx W hb
  have J2 := hide fun W hb => join_at hB cb y hy W hb
  have J3 := hide fun W hb => join_at hC cc z hz W hb
  have C1 := hide fun W hb => compare_at hA hB ca cb ab hab W hb
  have C2 := hide fun W hb => compare_at hB hA cb ca (-ab) hba W hb
  have C3 := hide fun W hb => compare_at hB hC cb cc bc hbc W hb
  have C4 := hide fun W hb => compare_at hA hC ca cc ac hac W hb
  have C5 := hide fun W hb => compare_at hA hA ca ca 0 haa W hb
  have S1 := hide fun W hb => same_at hA hB ca cb _ hsm W hb
  clear k1 k2 k3 hx hy hz hab hbc hac hba haa hsm hA hB hC
  have HB0 : Hid (Below w.heap.size w w) := Lib.hid (Below.refl _ _)
  go_enter Try.func5, Try.ntmps5
  go_wp2_with fail
  refine (lives_any _).mono ?_
  rintro e w1 ⟨rfl, hb⟩
  have HB1 := Lib.hid (HB0.out.trans (hb.mono HB0.out.size))
  clear hb
  go_wp2_with fail
  refine (unhide J1 _ HB1.out).mono ?_
  rintro e w2 ⟨rfl, hb⟩
  have HB2 := Lib.hid (HB1.out.trans (hb.mono HB1.out.size))
  clear hb
  go_wp2_with fail
  refine (unhide J2 _ HB2.out).mono ?_
  rintro e w3 ⟨rfl, hb⟩
  have HB3 := Lib.hid (HB2.out.trans (hb.mono HB2.out.size))
  clear hb
  go_wp2_with fail
  refine (unhide J3 _ HB3.out).mono ?_
  rintro e w4 ⟨rfl, hb⟩
  have HB4 := Lib.hid (HB3.out.trans (hb.mono HB3.out.size))
  clear hb
  go_wp2_with fail
  refine (unhide C1 _ HB4.out).mono ?_
  rintro e w5 ⟨rfl, hb⟩
  have HB5 := Lib.hid (HB4.out.trans (hb.mono HB4.out.size))
  clear hb
  go_wp2_with fail
  refine (unhide C2 _ HB5.out).mono ?_
  rintro e w6 ⟨rfl, hb⟩
  have HB6 := Lib.hid (HB5.out.trans (hb.mono HB5.out.size))
  clear hb
  go_wp2_with fail
  refine (unhide C3 _ HB6.out).mono ?_
  rintro e w7 ⟨rfl, hb⟩
  have HB7 := Lib.hid (HB6.out.trans (hb.mono HB6.out.size))
  clear hb
  go_wp2_with fail
  refine (unhide C4 _ HB7.out).mono ?_
  rintro e w8 ⟨rfl, hb⟩
  have HB8 := Lib.hid (HB7.out.trans (hb.mono HB7.out.size))
  clear hb
  obtain ⟨e1, e2⟩ := b1
  rcases r1.out with h | h | h
  all_goals
    subst h
    have f1 := F1.out
    have f2 := F2.out
    simp only [Int.reduceNeg, Int.reduceLT, Int.reduceEq, decide_true, decide_false] at f1 f2
    clear F1 F2 r1 e1 e2
    go_wp2_with fail
    refine (unhide C5 _ HB8.out).mono ?_
    rintro e w9 ⟨rfl, hb⟩
    have HB9 := Lib.hid (HB8.out.trans (hb.mono HB8.out.size))
    clear hb
    go_wp2_with fail
    refine (unhide S1 _ HB9.out).mono ?_
    rintro e w10 ⟨rfl, hb⟩
    have HB10 := Lib.hid (HB9.out.trans (hb.mono HB9.out.size))
    clear hb
    rcases r2.out with h2 | h2 | h2 <;> rcases r3.out with h3 | h3 | h3
    all_goals
      subst h2 h3
      first
        | (exfalso; have h9 := unhide htr (by omega) (by omega); omega)
        | (have f3 := F3.out
           have f4 := F4.out
           simp only [Int.reduceNeg, Int.reduceLT, decide_true, decide_false] at f3 f4
           clear F3 F4 r2 r3 htr
           go_wp2_with fail
           go_ret
           exact ⟨rfl, HB10.out⟩)
end Go.Proofs.Ytfgkgehlokabgaa
