/-
  Walks over layer 7's reference: Open.
-/
import Derived.Test.YtffmekcpkilkoaaDoorRefSeal
namespace Go.Proofs.YtffmekcpkilkoaaDoor
open Go.RowKit

set_option maxHeartbeats 1000000 in
theorem openr_size (stamp : Nat) (s : ByteArray) (hl : s.size ≠ 256) (w : World) :
    Calls Tryd.prog 14 #[.int .u64 stamp, .string s] w fun e w' => e = .returned (.tuple #[.string ⟨#[]⟩, .bool false]) ∧ Below w.heap.size w w' := by
  have h2 : ((s.size : Int) != 256) = true := bne_iff_ne.2 (by omega)
  clear hl
  go_enter Tryd.func14, Tryd.ntmps14
  go_wp2
  go_ret2
  exact ⟨rfl, Below.refl _ _⟩
theorem two_bytes (s : ByteArray) (l : List UInt8) (hl : s.data.toList = l) (h8 : 8 < s.size) (h9 : 9 < s.size) : (s[8]'h8).toNat + 256 * (s[9]'h9).toNat = getN (l.drop 8) 2 := by
  have e8 := byte_at hl 8 h8
  have e9 := byte_at hl 9 h9
  show _ = 0 + ((l.drop 8).getD 0 0).toNat * 2 ^ (8 * 0) + ((l.drop 8).getD 1 0).toNat * 2 ^ (8 * 1)
  rw [e8, e9, show (2 : Nat) ^ (8 * 0) = 1 from rfl, show (2 : Nat) ^ (8 * 1) = 256 from rfl]
  simp only [List.getD_eq_getElem?_getD, List.getElem?_drop, Nat.reduceAdd]
  omega
theorem bdn2 {w a : World} (h : Below w.heap.size w a) (n : Nat) : Below w.heap.size w (a.drewN n) := bdn h n
set_option maxRecDepth 100000 in
set_option maxHeartbeats 2000000 in
theorem openr_much (stamp : Nat) (s : ByteArray) (l : List UInt8) (hl : s.data.toList = l) (hs : s.size = 256) (hn : 234 < getN (l.drop 8) 2) (w : World) :
    Calls Tryd.prog 14 #[.int .u64 stamp, .string s] w fun e w' => e = .returned (.tuple #[.string ⟨#[]⟩, .bool false]) ∧ Below w.heap.size w w' := by
  have h2 : ((s.size : Int) != 256) = false := by rw [hs]; rfl
  have h8 : 8 < s.size := by omega
  have h9 : 9 < s.size := by omega
  have h8i : (8 : Int) < (s.size : Int) := by omega
  have h9i : (9 : Int) < (s.size : Int) := by omega
  have b8 := (s[8]'h8).toNat_lt
  have b9 := (s[9]'h9).toNat_lt
  have ht := two_bytes s l hl h8 h9
  obtain ⟨n, hN⟩ : ∃ n, Hid (getN (l.drop 8) 2 = n) := ⟨_, Lib.hid rfl⟩
  rw [hN.out] at ht hn
  have hw2 : ((s[8]'h8).toNat : Int) + (256 : Int) * ((s[9]'h9).toNat : Int) = (n : Int) := by omega
  have hn2 : (234 : Int) < (n : Int) := by omega
  clear ht hl hs hn
  go_enter Tryd.func14, Tryd.ntmps14
  go_wp2_with fail
  go_quiet (fail)
  go_wp2_with fail
  go_ret2
  exact ⟨rfl, bdn (Below.refl _ _) _⟩
set_option maxRecDepth 100000 in
set_option maxHeartbeats 4000000 in
theorem openr_zero (s : ByteArray) (l : List UInt8) (hl : s.data.toList = l) (hs : s.size = 256) (n : Nat) (hnn : getN (l.drop 8) 2 = n) (hn : n ≤ 234) (w : World) :
    Calls Tryd.prog 14 #[.int .u64 0, .string s] w fun e w' => e = .returned (.tuple #[.string ⟨#[]⟩, .bool false]) ∧ Below w.heap.size w w' := by
  have h2 : ((s.size : Int) != 256) = false := by rw [hs]; rfl
  have h8 : 8 < s.size := by omega
  have h9 : 9 < s.size := by omega
  have h8i : (8 : Int) < (s.size : Int) := by omega
  have h9i : (9 : Int) < (s.size : Int) := by omega
  have b8 := (s[8]'h8).toNat_lt
  have b9 := (s[9]'h9).toNat_lt
  have ht := two_bytes s l hl h8 h9
  rw [hnn] at ht
  have hw2 : ((s[8]'h8).toNat : Int) + (256 : Int) * ((s[9]'h9).toNat : Int) = (n : Int) := by omega
  have hn2 : (n : Int) ≤ 234 := by omega
  have hsu : (s.size : Int) ≤ 256 := by omega
  have h5 : (10 : Int) + (n : Int) ≤ (s.size : Int) := by omega
  have h6 : 10 + n ≤ s.size := by omega
  clear ht hl hs hnn
  go_enter Tryd.func14, Tryd.ntmps14
  go_wp2_with fail
  go_quiet (fail)
  clear hw2
  have HB1 := Lib.hid (bdn (Below.refl w.heap.size w) nq)
  generalize w.drewN nq = w1 at HB1 ⊢
  go_wp2_with fail
  refine (sealr_zero _ _).mono ?_
  rintro e w2 ⟨rfl, hb⟩
  have HB2 := Lib.hid (HB1.out.trans (hb.mono HB1.out.size))
  clear hb
  go_wp2_with fail
  go_ret2
  exact ⟨rfl, HB2.out⟩
set_option maxRecDepth 100000 in
set_option maxHeartbeats 4000000 in
theorem openr_sealed (stamp : Nat) (hs0 : 0 < stamp) (hst : stamp < 18446744073709551616) (s : ByteArray) (l : List UInt8) (hl : s.data.toList = l) (hs : s.size = 256) (n : Nat) (hnn : getN (l.drop 8) 2 = n) (hn : n ≤ 234) (w : World)
    (same : Bool) (hq0 : (sealL stamp ((l.drop 10).take n) == l) = same) :
    Calls Tryd.prog 14 #[.int .u64 stamp, .string s] w fun e w' => e = .returned (.tuple #[.string (if same = true then s.extract 10 (10 + n) else ⟨#[]⟩), .bool same]) ∧ Below w.heap.size w w' := by
  have h2 : ((s.size : Int) != 256) = false := by rw [hs]; rfl
  have h8 : 8 < s.size := by omega
  have h9 : 9 < s.size := by omega
  have h8i : (8 : Int) < (s.size : Int) := by omega
  have h9i : (9 : Int) < (s.size : Int) := by omega
  have b8 := (s[8]'h8).toNat_lt
  have b9 := (s[9]'h9).toNat_lt
  have ht := two_bytes s l hl h8 h9
  rw [hnn] at ht
  have hw2 : ((s[8]'h8).toNat : Int) + (256 : Int) * ((s[9]'h9).toNat : Int) = (n : Int) := by omega
  have hn2 : (n : Int) ≤ 234 := by omega
  have hsu : (s.size : Int) ≤ 256 := by omega
  have h5 : (10 : Int) + (n : Int) ≤ (s.size : Int) := by omega
  have h6 : 10 + n ≤ s.size := by omega
  have hsl := size_list s l hl
  obtain ⟨t, hT⟩ : ∃ t : ByteArray, Hid (t = ⟨(sealL stamp (s.extract 10 (10 + n)).data.toList).toArray⟩) := ⟨_, Lib.hid rfl⟩
  have hseal := hide fun (W : World) => sealr_ok stamp hst hs0 (s.extract 10 (10 + n)) (by simp [hs]; omega) t hT W
  have hq : (t.toList == s.toList) = same := by
    rw [ByteArray.toList_eq, ByteArray.toList_eq, hl, hT.out, extract_list s l hl 10 n (by omega)]
    exact hq0
  clear ht hl hs hnn hT hq0 hsl
  go_enter Tryd.func14, Tryd.ntmps14
  go_wp2_with fail
  go_quiet (fail)
  clear hw2
  have HB1 := Lib.hid (bdn (Below.refl w.heap.size w) nq)
  generalize w.drewN nq = w1 at HB1 ⊢
  cases same
  all_goals
    go_wp2_with fail
    refine (unhide hseal _).mono ?_
    rintro e w2 ⟨rfl, hb⟩
    have HB2 := Lib.hid (HB1.out.trans (hb.mono HB1.out.size))
    clear hb
    go_wp2_with fail
    go_ret2
    exact ⟨rfl, HB2.out⟩
theorem openr_any (stamp : Nat) (hst : stamp < 18446744073709551616) (s : ByteArray) (q : ByteArray) (b : Bool) (hq : Hid (openS stamp s = q)) (hb : Hid ((openL stamp s.data.toList).isSome = b)) (w : World) :
    Calls Tryd.prog 14 #[.int .u64 stamp, .string s] w fun e w' => e = .returned (.tuple #[.string q, .bool b]) ∧ Below w.heap.size w w' := by
  have hsl := size_list s _ rfl
  have hq' := hq.out
  have hb' := hb.out
  unfold openS at hq'
  unfold openL at hq' hb'
  by_cases h1 : s.size = 256
  · have hlen : ¬ (s.data.toList.length ≠ 256) := by rw [← hsl]; simpa using h1
    by_cases h2 : 234 < getN (s.data.toList.drop 8) 2
    · simp only [h2, if_true, ite_self] at hq' hb'
      subst hq' hb'
      exact openr_much stamp s _ rfl h1 h2 w
    · by_cases h0 : stamp = 0
      · subst h0
        simp only [true_or, if_true] at hq' hb'
        subst hq' hb'
        exact openr_zero s _ rfl h1 _ rfl (by omega) w
      · rw [if_neg (show ¬ (stamp = 0 ∨ s.data.toList.length ≠ 256) from fun h => h.elim h0 hlen), if_neg h2] at hq' hb'
        by_cases h3 : sealL stamp ((s.data.toList.drop 10).take (getN (s.data.toList.drop 8) 2)) = s.data.toList
        · rw [if_pos h3] at hq' hb'
          have := openr_sealed stamp (by omega) hst s _ rfl h1 _ rfl (by omega) w true (by rw [h3]; simp)
          rw [if_pos rfl] at this
          have e : s.extract 10 (10 + getN (s.data.toList.drop 8) 2) = q := by
            rw [← hq']
            apply Go.WideShapes.bytes_inj
            rw [extract_list s _ rfl 10 _ (by omega)]
            rfl
          rw [e] at this
          subst hb'
          exact this
        · rw [if_neg h3] at hq' hb'
          subst hq' hb'
          exact openr_sealed stamp (by omega) hst s _ rfl h1 _ rfl (by omega) w false (beq_eq_false_iff_ne.2 h3)
  · have : (stamp = 0 ∨ s.data.toList.length ≠ 256) := .inr (by rw [← hsl]; exact h1)
    rw [if_pos this] at hq' hb'
    subst hq' hb'
    exact openr_size stamp s h1 w
end Go.Proofs.YtffmekcpkilkoaaDoor
