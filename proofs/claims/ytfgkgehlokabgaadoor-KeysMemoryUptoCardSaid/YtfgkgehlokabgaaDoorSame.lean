/-
  Walks over layer 2: same, lives.
-/
import Derived.Test.YtfgkgehlokabgaaDoorCmp
namespace Go.Proofs.YtfgkgehlokabgaaDoor
open Go.RowKit

theorem bcell3 {w w1 : World} {B b o k : Nat} {x y z : Value} (hb : Below w.heap.size w w1) (h1 : b < B) (h2 : B ≤ w.heap.size)
    (h : w.cell? ⟨b, o + k * 3, none⟩ = some x ∧ w.cell? ⟨b, o + k * 3 + 1, none⟩ = some y ∧ w.cell? ⟨b, o + k * 3 + 2, none⟩ = some z) :
    w1.cell? ⟨b, o + k * 3, none⟩ = some x ∧ w1.cell? ⟨b, o + k * 3 + 1, none⟩ = some y ∧ w1.cell? ⟨b, o + k * 3 + 2, none⟩ = some z :=
  ⟨(hb.cell (p := ⟨b, o + k * 3, none⟩) (Nat.lt_of_lt_of_le h1 h2)).trans h.1, (hb.cell (p := ⟨b, o + k * 3 + 1, none⟩) (Nat.lt_of_lt_of_le h1 h2)).trans h.2.1, (hb.cell (p := ⟨b, o + k * 3 + 2, none⟩) (Nat.lt_of_lt_of_le h1 h2)).trans h.2.2⟩
theorem cases4 (a b c r : Bool) (h : (!(a && b && c)) = r) : (a = false ∧ r = true) ∨ (a = true ∧ b = false ∧ r = true) ∨ (a = true ∧ b = true ∧ c = false ∧ r = true) ∨ (a = true ∧ b = true ∧ c = true ∧ r = false) := by
  subst h
  cases a <;> cases b <;> cases c <;> simp
theorem same_len (ad bd : Option Addr) (na ca nb cb : Nat) (A B : Nat → PV) (h : na ≠ nb) (w : World) :
    Calls Tryd.prog 9 #[.slice ad na ca, .slice bd nb cb] w fun e w' => e = .returned (.bool (sameB A B na nb)) ∧ Below w.heap.size w w' := by
  have h1 : ((na : Int) != (nb : Int)) = true := bne_iff_ne.2 (by omega)
  have HS := Lib.hid (sameB_len A B na nb h)
  clear h
  go_enter Tryd.func9, Tryd.ntmps9
  go_wp2_with fail
  go_ret
  exact ⟨by rw [HS.out]; rfl, Below.refl _ _⟩
set_option maxRecDepth 100000 in
set_option maxHeartbeats 8000000 in
theorem same_eq (ad bd : Option Addr) (n ca cb : Nat) (A B : Nat → PV) (hn : n ≤ 1099511627776) (w : World) (hA : SliceIs w w.heap.size ad n A) (hB : SliceIs w w.heap.size bd n B) :
    Calls Tryd.prog 9 #[.slice ad n ca, .slice bd n cb] w fun e w' => e = .returned (.bool (sameB A B n n)) ∧ Below w.heap.size w w' := by
  have HA := Lib.hid hA
  have HB := Lib.hid hB
  clear hA hB
  go_enter Tryd.func9, Tryd.ntmps9
  go_wp2_with fail
  go_loopw [13] (fun i wr => ∃ k : Nat, k ≤ n ∧ i = .int .i64 k ∧ Hid (∀ i, i < k → (A i).nrm = (B i).nrm) ∧ Hid (Below w.heap.size w wr)) (fun i _ => n - (intOf i).toNat)
  case atStart => exact ⟨0, by omega, rfl, Lib.hid (fun i hi => by omega), Lib.hid (Below.refl _ _)⟩
  case round =>
    obtain ⟨k, hk, rfl, hall, HW⟩ := hrel
    by_cases hkn : k < n
    · have hkn2 : (k : Int) < (n : Int) := by omega
      have HB1 := HB.out.below HW.out (Nat.le_refl _)
      obtain ⟨b1, o1, rfl, hb1, c0, c1, c2⟩ := (HA.out.below HW.out (Nat.le_refl _)).at_ k hkn
      obtain ⟨b2, o2, rfl, hb2, d0, d1, d2⟩ := HB1.at_ k hkn
      have HB2 := Lib.hid hb2
      have HS := Lib.hid HW.out.size
      have HD := Lib.hid (And.intro d0 (And.intro d1 d2))
      obtain ⟨P, hP⟩ : ∃ P, Hid ((A k).nrm = P) := ⟨_, Lib.hid rfl⟩
      obtain ⟨Q, hQ⟩ : ∃ P, Hid ((B k).nrm = P) := ⟨_, Lib.hid rfl⟩
      have p1 := hide fun (W : World) => plain_any (A k) W
      have p2 := hide fun (W : World) => plain_any (B k) W
      rw [hP.out] at p1
      rw [hQ.out] at p2
      obtain ⟨x1, x2, x3⟩ := P
      obtain ⟨y1, y2, y3⟩ := Q
      clear HB1 hb1 hb2
      obtain ⟨r, hr⟩ : ∃ r : Bool, Hid ((!(x1 == y1 && x2 == y2 && x3.toList == y3.toList)) = r) := ⟨_, Lib.hid rfl⟩
      go_upto_region 6 with fail
      go_cut [26] (fun v wx => v = .bool r ∧ Hid (Below w.heap.size w wx))
      case first =>
        rcases cases4 (x1 == y1) (x2 == y2) (x3.toList == y3.toList) r hr.out with ⟨f1, rfl⟩ | ⟨f1, f2, rfl⟩ | ⟨f1, f2, f3, rfl⟩ | ⟨f1, f2, f3, rfl⟩
        all_goals
          clear hr
          go_region_with (first
            | (go_at_call 19; first | ((with_reducible refine (unhide p1 _).mono ?_); rintro e w' ⟨rfl, hb⟩; have h9 := bcell3 (undrew hb) HB2.out HS.out HD.out; obtain ⟨f0, f1, f2⟩ := h9) | ((with_reducible refine (unhide p2 _).mono ?_); rintro e w'' ⟨rfl, hb'⟩)))
        all_goals
          go_wp2_with fail
          go_meet
          exact ⟨rfl, Lib.hid (HW.out.trans (((undrew hb).trans (hb'.mono hb.size)).mono HS.out))⟩
      case rest =>
        obtain ⟨rfl, HW2⟩ := hcut
        by_cases heq : (A k).nrm = (B k).nrm
        · have he := heq
          rw [hP.out, hQ.out] at he
          simp only [PV.mk.injEq] at he
          obtain ⟨rfl, rfl, rfl⟩ := he
          obtain rfl : r = false := by rw [← hr.out]; simp
          have hall2 : Hid (∀ i, i < k + 1 → (A i).nrm = (B i).nrm) := Lib.hid fun i hi => by
            rcases (by omega : i < k ∨ i = k) with h | rfl
            · exact hall.out i h
            · exact heq
          clear heq
          go_wp2_with fail
          go_roundw
          case rel => exact ⟨k + 1, by omega, by go_num, hall2, HW2⟩
          case measure => simp [intOf]; omega
        · have HF := Lib.hid (sameB_at A B n k hkn heq)
          have hv : (x1 == y1 && x2 == y2 && x3.toList == y3.toList) = false := by
            rw [hP.out, hQ.out] at heq
            cases hv : (x1 == y1 && x2 == y2 && x3.toList == y3.toList) with
            | false => rfl
            | true =>
              simp only [Bool.and_eq_true, beq_iff_eq, ByteArray.toList_eq] at hv
              obtain ⟨⟨rfl, rfl⟩, h3⟩ := hv
              exact absurd (by rw [Go.WideShapes.bytes_inj h3]) heq
          obtain rfl : r = true := by rw [← hr.out, hv]; rfl
          clear heq hv
          go_wp2_with fail
          go_ret
          exact ⟨by rw [HF.out]; rfl, HW2.out⟩
    · have hkn2 : ¬ (k : Int) < (n : Int) := by omega
      obtain rfl : k = n := by omega
      have HF := Lib.hid (sameB_all A B k hall.out)
      go_wp2_with fail
      go_ret
      exact ⟨by rw [HF.out]; rfl, HW.out⟩
end Go.Proofs.YtfgkgehlokabgaaDoor
