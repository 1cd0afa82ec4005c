/-
  Walks over layer 22: the good pairs.
-/
import Derived.Test.YtfemggdbgibgaaaWalks
import Derived.Deep.LoopGhost
namespace Go.Proofs.Ytfemggdbgibgaaa
open Go.RowKit

/-- The good pairs, by number. -/
def gp : List (Int × Int) := [(1, 1), (2, 0), (2, 2), (2, 3), (3, 0), (4, 0)]
/-- Is it one of the first k? -/
def goodN (p a : Int) : Nat → Bool
  | 0 => false
  | k + 1 => goodN p a k || ((gp.getD k (0, 0)).1 == p && (gp.getD k (0, 0)).2 == a)
def goodB (p a : Int) : Bool := goodN p a 6

set_option maxRecDepth 100000 in
set_option maxHeartbeats 2000000 in
theorem isgood_any (p a : Int) (w : World) :
    Calls Try.prog 10 #[.int .i64 p, .int .i64 a] w fun e w' => e = .returned (.bool (goodB p a)) ∧ Below w.heap.size w w' := by
  go_enter Try.func10, Try.ntmps10
  go_wp2_with fail
  refine (good_any _).mono ?_
  rintro e w1 ⟨rfl, hb, hr⟩
  have HB1 := Lib.hid hb
  have HR1 := Lib.hid hr
  clear hb hr
  go_wp2
  go_loopw [9] (fun i wr => ∃ k : Nat, k ≤ 6 ∧ i = .int .i64 k ∧ Hid (goodN p a k = false) ∧ Hid (Row wr w.heap.size grow 42) ∧ Hid (Below w.heap.size w wr)) (fun i _ => 6 - (intOf i).toNat)
  case atStart => exact ⟨0, by omega, rfl, Lib.hid rfl, HR1, HB1⟩
  case round =>
    obtain ⟨k, hk, rfl, HN, HR, HB⟩ := hrel
    by_cases hk6 : k = 6
    · subst hk6
      clear hk
      go_wp2
      go_ret
      exact ⟨by rw [show goodB p a = false from HN.out]; rfl, HB.out⟩
    · rcases (by omega : k = 0 ∨ k = 1 ∨ k = 2 ∨ k = 3 ∨ k = 4 ∨ k = 5) with rfl | rfl | rfl | rfl | rfl | rfl
      · have c0 : wr.cell? ⟨w.heap.size, 0, none⟩ = some (.int .i64 1) := HR.out.cell 0
        have c1 : wr.cell? ⟨w.heap.size, 1, none⟩ = some (.int .i64 1) := HR.out.cell 1
        have hlt := HR.out.lt
        clear hk hk6
        by_cases hp : p = 1
        · subst hp
          by_cases ha : a = 1
          · subst ha
            clear HN
            go_wp2
            go_ret
            exact ⟨rfl, HB.out.alloc HB.out.size _⟩
          · have h1 : ¬ ((1 : Int) = a) := fun e => ha e.symm
            have h2 := beq_no h1
            clear ha
            go_wp2
            exact ⟨⟨1, by omega, rfl, Lib.hid (show (goodN 1 a 0 || ((1 : Int) == 1 && (1 : Int) == a)) = false by rw [HN.out, h2]; rfl), Lib.hid (HR.out.alloc _), Lib.hid (HB.out.alloc HB.out.size _)⟩, by decide⟩
        · have h1 : ¬ ((1 : Int) = p) := fun e => hp e.symm
          have h2 := beq_no h1
          clear hp
          go_wp2
          exact ⟨⟨1, by omega, rfl, Lib.hid (show (goodN p a 0 || ((1 : Int) == p && (1 : Int) == a)) = false by rw [HN.out, h2]; rfl), Lib.hid (HR.out.alloc _), Lib.hid (HB.out.alloc HB.out.size _)⟩, by decide⟩
      · have c0 : wr.cell? ⟨w.heap.size, 2, none⟩ = some (.int .i64 2) := HR.out.cell 2
        have c1 : wr.cell? ⟨w.heap.size, 3, none⟩ = some (.int .i64 0) := HR.out.cell 3
        have hlt := HR.out.lt
        clear hk hk6
        by_cases hp : p = 2
        · subst hp
          by_cases ha : a = 0
          · subst ha
            clear HN
            go_wp2
            go_ret
            exact ⟨rfl, HB.out.alloc HB.out.size _⟩
          · have h1 : ¬ ((0 : Int) = a) := fun e => ha e.symm
            have h2 := beq_no h1
            clear ha
            go_wp2
            exact ⟨⟨2, by omega, rfl, Lib.hid (show (goodN 2 a 1 || ((2 : Int) == 2 && (0 : Int) == a)) = false by rw [HN.out, h2]; rfl), Lib.hid (HR.out.alloc _), Lib.hid (HB.out.alloc HB.out.size _)⟩, by decide⟩
        · have h1 : ¬ ((2 : Int) = p) := fun e => hp e.symm
          have h2 := beq_no h1
          clear hp
          go_wp2
          exact ⟨⟨2, by omega, rfl, Lib.hid (show (goodN p a 1 || ((2 : Int) == p && (0 : Int) == a)) = false by rw [HN.out, h2]; rfl), Lib.hid (HR.out.alloc _), Lib.hid (HB.out.alloc HB.out.size _)⟩, by decide⟩
      · have c0 : wr.cell? ⟨w.heap.size, 4, none⟩ = some (.int .i64 2) := HR.out.cell 4
        have c1 : wr.cell? ⟨w.heap.size, 5, none⟩ = some (.int .i64 2) := HR.out.cell 5
        have hlt := HR.out.lt
        clear hk hk6
        by_cases hp : p = 2
        · subst hp
          by_cases ha : a = 2
          · subst ha
            clear HN
            go_wp2
            go_ret
            exact ⟨rfl, HB.out.alloc HB.out.size _⟩
          · have h1 : ¬ ((2 : Int) = a) := fun e => ha e.symm
            have h2 := beq_no h1
            clear ha
            go_wp2
            exact ⟨⟨3, by omega, rfl, Lib.hid (show (goodN 2 a 2 || ((2 : Int) == 2 && (2 : Int) == a)) = false by rw [HN.out, h2]; rfl), Lib.hid (HR.out.alloc _), Lib.hid (HB.out.alloc HB.out.size _)⟩, by decide⟩
        · have h1 : ¬ ((2 : Int) = p) := fun e => hp e.symm
          have h2 := beq_no h1
          clear hp
          go_wp2
          exact ⟨⟨3, by omega, rfl, Lib.hid (show (goodN p a 2 || ((2 : Int) == p && (2 : Int) == a)) = false by rw [HN.out, h2]; rfl), Lib.hid (HR.out.alloc _), Lib.hid (HB.out.alloc HB.out.size _)⟩, by decide⟩
      · have c0 : wr.cell? ⟨w.heap.size, 6, none⟩ = some (.int .i64 2) := HR.out.cell 6
        have c1 : wr.cell? ⟨w.heap.size, 7, none⟩ = some (.int .i64 3) := HR.out.cell 7
        have hlt := HR.out.lt
        clear hk hk6
        by_cases hp : p = 2
        · subst hp
          by_cases ha : a = 3
          · subst ha
            clear HN
            go_wp2
            go_ret
            exact ⟨rfl, HB.out.alloc HB.out.size _⟩
          · have h1 : ¬ ((3 : Int) = a) := fun e => ha e.symm
            have h2 := beq_no h1
            clear ha
            go_wp2
            exact ⟨⟨4, by omega, rfl, Lib.hid (show (goodN 2 a 3 || ((2 : Int) == 2 && (3 : Int) == a)) = false by rw [HN.out, h2]; rfl), Lib.hid (HR.out.alloc _), Lib.hid (HB.out.alloc HB.out.size _)⟩, by decide⟩
        · have h1 : ¬ ((2 : Int) = p) := fun e => hp e.symm
          have h2 := beq_no h1
          clear hp
          go_wp2
          exact ⟨⟨4, by omega, rfl, Lib.hid (show (goodN p a 3 || ((2 : Int) == p && (3 : Int) == a)) = false by rw [HN.out, h2]; rfl), Lib.hid (HR.out.alloc _), Lib.hid (HB.out.alloc HB.out.size _)⟩, by decide⟩
      · have c0 : wr.cell? ⟨w.heap.size, 8, none⟩ = some (.int .i64 3) := HR.out.cell 8
        have c1 : wr.cell? ⟨w.heap.size, 9, none⟩ = some (.int .i64 0) := HR.out.cell 9
        have hlt := HR.out.lt
        clear hk hk6
        by_cases hp : p = 3
        · subst hp
          by_cases ha : a = 0
          · subst ha
            clear HN
            go_wp2
            go_ret
            exact ⟨rfl, HB.out.alloc HB.out.size _⟩
          · have h1 : ¬ ((0 : Int) = a) := fun e => ha e.symm
            have h2 := beq_no h1
            clear ha
            go_wp2
            exact ⟨⟨5, by omega, rfl, Lib.hid (show (goodN 3 a 4 || ((3 : Int) == 3 && (0 : Int) == a)) = false by rw [HN.out, h2]; rfl), Lib.hid (HR.out.alloc _), Lib.hid (HB.out.alloc HB.out.size _)⟩, by decide⟩
        · have h1 : ¬ ((3 : Int) = p) := fun e => hp e.symm
          have h2 := beq_no h1
          clear hp
          go_wp2
          exact ⟨⟨5, by omega, rfl, Lib.hid (show (goodN p a 4 || ((3 : Int) == p && (0 : Int) == a)) = false by rw [HN.out, h2]; rfl), Lib.hid (HR.out.alloc _), Lib.hid (HB.out.alloc HB.out.size _)⟩, by decide⟩
      · have c0 : wr.cell? ⟨w.heap.size, 10, none⟩ = some (.int .i64 4) := HR.out.cell 10
        have c1 : wr.cell? ⟨w.heap.size, 11, none⟩ = some (.int .i64 0) := HR.out.cell 11
        have hlt := HR.out.lt
        clear hk hk6
        by_cases hp : p = 4
        · subst hp
          by_cases ha : a = 0
          · subst ha
            clear HN
            go_wp2
            go_ret
            exact ⟨rfl, HB.out.alloc HB.out.size _⟩
          · have h1 : ¬ ((0 : Int) = a) := fun e => ha e.symm
            have h2 := beq_no h1
            clear ha
            go_wp2
            exact ⟨⟨6, by omega, rfl, Lib.hid (show (goodN 4 a 5 || ((4 : Int) == 4 && (0 : Int) == a)) = false by rw [HN.out, h2]; rfl), Lib.hid (HR.out.alloc _), Lib.hid (HB.out.alloc HB.out.size _)⟩, by decide⟩
        · have h1 : ¬ ((4 : Int) = p) := fun e => hp e.symm
          have h2 := beq_no h1
          clear hp
          go_wp2
          exact ⟨⟨6, by omega, rfl, Lib.hid (show (goodN p a 5 || ((4 : Int) == p && (0 : Int) == a)) = false by rw [HN.out, h2]; rfl), Lib.hid (HR.out.alloc _), Lib.hid (HB.out.alloc HB.out.size _)⟩, by decide⟩
end Go.Proofs.Ytfemggdbgibgaaa
