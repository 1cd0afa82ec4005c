/-
  Walks over layer 7: Seal where it refuses, Open, counts, cut.
-/
import Derived.Test.YtffmekcpkilkoaaDoorSeal
namespace Go.Proofs.YtffmekcpkilkoaaDoor
open Go.RowKit

set_option maxHeartbeats 1000000 in
theorem seal_zero (s : ByteArray) (x : Value) (w : World) (hc : w.cell? ⟨0, 0, none⟩ = some x) :
    Calls Tryd.prog 9 #[.int .u64 0, .string s] w fun e w' => e = .returned (.tuple #[.string ⟨#[]⟩, x]) ∧ Below w.heap.size w w' := by
  go_enter Tryd.func9, Tryd.ntmps9
  go_wp2
  go_quiet (fail)
  go_wp2
  go_ret2
  exact ⟨rfl, below_drewN (Below.refl _ _) _⟩
set_option maxHeartbeats 1000000 in
theorem seal_long (stamp : Nat) (hs0 : 0 < stamp) (s : ByteArray) (hl : 234 < s.size) (x : Value) (w : World) (hc : w.cell? ⟨1, 0, none⟩ = some x) :
    Calls Tryd.prog 9 #[.int .u64 stamp, .string s] w fun e w' => e = .returned (.tuple #[.string ⟨#[]⟩, x]) ∧ Below w.heap.size w w' := by
  have h1 : ((stamp : Int) == 0) = false := beq_eq_false_iff_ne.2 (by omega)
  have h2 : (234 : Int) < (s.size : Int) := by omega
  go_enter Tryd.func9, Tryd.ntmps9
  go_wp2
  go_quiet (fail)
  go_wp2
  go_ret2
  exact ⟨rfl, below_drewN (Below.refl _ _) _⟩

set_option maxHeartbeats 1000000 in
theorem open_zero (s : ByteArray) (w : World) :
    Calls Tryd.prog 11 #[.int .u64 0, .string s] w fun e w' => e = .returned (.tuple #[.string ⟨#[]⟩, .bool false]) ∧ Below w.heap.size w w' := by
  go_enter Tryd.func11, Tryd.ntmps11
  go_wp2
  go_ret2
  exact ⟨rfl, Below.refl _ _⟩
set_option maxHeartbeats 1000000 in
theorem open_size (stamp : Nat) (hs0 : 0 < stamp) (s : ByteArray) (hl : s.size ≠ 256) (w : World) :
    Calls Tryd.prog 11 #[.int .u64 stamp, .string s] w fun e w' => e = .returned (.tuple #[.string ⟨#[]⟩, .bool false]) ∧ Below w.heap.size w w' := by
  have h1 : ((stamp : Int) == 0) = false := beq_eq_false_iff_ne.2 (by omega)
  have h2 : ((s.size : Int) != 256) = true := bne_iff_ne.2 (by omega)
  clear hl
  go_enter Tryd.func11, Tryd.ntmps11
  go_wp2
  go_ret2
  exact ⟨rfl, Below.refl _ _⟩
set_option maxHeartbeats 1000000 in
theorem open_much (stamp : Nat) (hs0 : 0 < stamp) (s : ByteArray) (l : List UInt8) (hl : s.data.toList = l) (hs : s.size = 256) (hn : 234 < getN (l.drop 8) 2) (w : World) :
    Calls Tryd.prog 11 #[.int .u64 stamp, .string s] w fun e w' => e = .returned (.tuple #[.string ⟨#[]⟩, .bool false]) ∧ Below w.heap.size w w' := by
  have h1 : ((stamp : Int) == 0) = false := beq_eq_false_iff_ne.2 (by omega)
  have h2 : ((s.size : Int) != 256) = false := by rw [hs]; rfl
  have hg := hide (get_any (s.extract 8 s.size) (l.drop 8) (by rw [extract_end, hl]) 2 (by omega) (by simp [hs]) w)
  have hlt := getN_lt (l.drop 8) 2
  have h3 : (8 : Int) ≤ (s.size : Int) := by omega
  have h4 : 8 ≤ s.size := by omega
  have hsu : (s.size : Int) ≤ 256 := by omega
  obtain ⟨n, hN⟩ : ∃ n, Hid (getN (l.drop 8) 2 = n) := ⟨_, Lib.hid rfl⟩
  rw [hN.out] at hg hn hlt
  have hn' : (234 : Int) < (n : Int) := by omega
  have hlt' : (n : Int) < 65536 := by omega
  clear hl hs
  go_enter Tryd.func11, Tryd.ntmps11
  go_wp2_with fail
  refine (unhide hg).mono ?_
  rintro e w1 ⟨rfl, rfl⟩
  go_wp2_with fail
  go_ret2
  exact ⟨rfl, Below.refl _ _⟩
theorem extract_list (s : ByteArray) (l : List UInt8) (hl : s.data.toList = l) (a n : Nat) (h : a + n ≤ l.length) : (s.extract a (a + n)).data.toList = (l.drop a).take n := by
  subst hl
  rw [Lib.extract_data]
  congr 1
  omega
theorem size_list (s : ByteArray) (l : List UInt8) (hl : s.data.toList = l) : s.size = l.length := by rw [← hl]; simp
set_option maxHeartbeats 2000000 in
theorem open_sealed (stamp : Nat) (hs0 : 0 < stamp) (hst : stamp < 18446744073709551616) (s : ByteArray) (l : List UInt8) (hl : s.data.toList = l) (hs : s.size = 256) (n : Nat) (hnn : getN (l.drop 8) 2 = n) (hn : n ≤ 234) (w : World)
    (hN : Nibs w) (hgN : 37 < w.heap.size) (same : Bool) (hq0 : (sealL stamp ((l.drop 10).take n) == l) = same) :
    Calls Tryd.prog 11 #[.int .u64 stamp, .string s] w fun e w' => e = .returned (.tuple #[.string (if same = true then s.extract 10 (10 + n) else ⟨#[]⟩), .bool same]) ∧ Below w.heap.size w w' := by
  have h1 : ((stamp : Int) == 0) = false := beq_eq_false_iff_ne.2 (by omega)
  have h2 : ((s.size : Int) != 256) = false := by rw [hs]; rfl
  have hg := hide (get_any (s.extract 8 s.size) (l.drop 8) (by rw [extract_end, hl]) 2 (by omega) (by simp [hs]) w)
  have hsl := size_list s l hl
  have hseal := hide (seal_yes stamp hst hs0 (s.extract 10 (10 + n)) ((l.drop 10).take n) (extract_list s l hl 10 n (by omega)) (by simp [hs]; omega) w hN hgN)
  have h3 : (8 : Int) ≤ (s.size : Int) := by omega
  have h4 : 8 ≤ s.size := by omega
  have hsu : (s.size : Int) ≤ 256 := by omega
  have h5 : (10 : Int) + (n : Int) ≤ (s.size : Int) := by omega
  have h6 : 10 + n ≤ s.size := by omega
  rw [hnn] at hg
  have hn' : (n : Int) ≤ 234 := by omega
  have hq : ((ByteArray.mk (sealL stamp ((l.drop 10).take n)).toArray).toList == s.toList) = same := by rw [ByteArray.toList_eq, ByteArray.toList_eq, hl]; exact hq0
  have hS := Lib.hid hseal
  generalize ByteArray.mk (sealL stamp ((l.drop 10).take n)).toArray = t at hseal hq
  clear hS hl hs hnn hsl hN hq0
  go_enter Tryd.func11, Tryd.ntmps11
  cases same
  all_goals
    go_wp2_with fail
    refine (unhide hg).mono ?_
    rintro e w1 ⟨rfl, rfl⟩
    clear hg
    go_wp2_with fail
    refine (unhide hseal).mono ?_
    rintro e w1 ⟨rfl, hb⟩
    clear hseal
    go_wp2_with fail
    go_ret2
    exact ⟨rfl, hb⟩
/-- Open, whatever the text. -/
theorem open_any (stamp : Nat) (hst : stamp < 18446744073709551616) (s : ByteArray) (l : List UInt8) (hl : s.data.toList = l) (w : World) (hN : Nibs w) (hgN : 37 < w.heap.size) :
    (∀ p, openL stamp l = some p → Calls Tryd.prog 11 #[.int .u64 stamp, .string s] w fun e w' => e = .returned (.tuple #[.string ⟨p.toArray⟩, .bool true]) ∧ Below w.heap.size w w') ∧
    (openL stamp l = none → Calls Tryd.prog 11 #[.int .u64 stamp, .string s] w fun e w' => e = .returned (.tuple #[.string ⟨#[]⟩, .bool false]) ∧ Below w.heap.size w w') := by
  have hsl := size_list s l hl
  unfold openL
  by_cases h0 : stamp = 0
  · subst h0
    exact ⟨fun p h => by simp at h, fun _ => open_zero s w⟩
  by_cases h1 : s.size = 256
  · rw [if_neg (by rw [← hsl]; simp [h0, h1])]
    by_cases h2 : 234 < getN (l.drop 8) 2
    · rw [if_pos h2]
      exact ⟨fun p h => by simp at h, fun _ => open_much stamp (by omega) s l hl h1 h2 w⟩
    · rw [if_neg h2]
      by_cases h3 : sealL stamp ((l.drop 10).take (getN (l.drop 8) 2)) = l
      · rw [if_pos h3]
        refine ⟨fun p h => ?_, fun h => by simp at h⟩
        have := open_sealed stamp (by omega) hst s l hl h1 _ rfl (by omega) w hN hgN true (by simp [h3])
        obtain rfl := Option.some.inj h
        rw [if_pos rfl] at this
        have e : s.extract 10 (10 + getN (l.drop 8) 2) = ⟨((l.drop 10).take (getN (l.drop 8) 2)).toArray⟩ := by
          apply Go.WideShapes.bytes_inj
          rw [extract_list s l hl 10 _ (by omega)]
        rw [e] at this
        exact this
      · rw [if_neg h3]
        refine ⟨fun p h => by simp at h, fun _ => ?_⟩
        exact open_sealed stamp (by omega) hst s l hl h1 _ rfl (by omega) w hN hgN false (by simp [h3])
  · rw [if_pos (by rw [← hsl]; exact .inr h1)]
    exact ⟨fun p h => by simp at h, fun _ => open_size stamp (by omega) s h1 w⟩
theorem counts_any (stamp : Nat) (hst : stamp < 18446744073709551616) (s : ByteArray) (l : List UInt8) (hl : s.data.toList = l) (w : World) (hN : Nibs w) (hgN : 37 < w.heap.size) :
    Calls Tryd.prog 21 #[.int .u64 stamp, .string s] w fun e w' => e = .returned (.bool (openL stamp l).isSome) ∧ Below w.heap.size w w' := by
  obtain ⟨ha, hb⟩ := open_any stamp hst s l hl w hN hgN
  cases ho : openL stamp l with
  | none =>
    have H := hide (hb ho)
    clear ha hb ho hl hN
    go_enter Tryd.func21, Tryd.ntmps21
    go_wp2_with fail
    refine (unhide H).mono ?_
    rintro e w1 ⟨rfl, hb⟩
    go_wp2
    go_ret
    exact ⟨rfl, hb⟩
  | some p =>
    have H := hide (ha p ho)
    clear ha hb ho hl hN
    go_enter Tryd.func21, Tryd.ntmps21
    go_wp2_with fail
    refine (unhide H).mono ?_
    rintro e w1 ⟨rfl, hb⟩
    go_wp2
    go_ret
    exact ⟨rfl, hb⟩
/-- A payload that may be. -/
def cutS (s : ByteArray) : ByteArray := s.extract 0 (min (s.size : Int) 234).toNat
theorem cutS_size (s : ByteArray) : (cutS s).size ≤ 234 := by unfold cutS; simp; omega
theorem cut_any (s : ByteArray) (hm : s.size ≤ maxLen) (w : World) :
    Calls Tryd.prog 20 #[.string s] w fun e w' => e = .returned (.string (cutS s)) ∧ w = w' := by
  unfold maxLen at hm
  go_enter Tryd.func20, Tryd.ntmps20
  go_wp2
  go_ret
  exact ⟨rfl, rfl⟩
end Go.Proofs.YtffmekcpkilkoaaDoor
