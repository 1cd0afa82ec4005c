/-
  Layer 11: the document's answer: place, Delete.
-/
import Derived.Test.YtiffjjophmgdlaaOf
import Derived.IntWalk
namespace Go.Proofs.Ytiffjjophmgdlaa
open Go.RowKit Tb
attribute [local go_sem ↓] Go.wp_at_zero Go.wp_at_succ

theorem take_succ_del (k : ByteArray) {l : List Rw} {i : Nat} {r : Rw} (h : l[i]? = some r) : del (l.take (i + 1)) k = del (l.take i) k ++ (if r.1 = k then [] else [r]) := by
  obtain ⟨h1, h2⟩ := List.getElem?_eq_some_iff.1 h
  rw [List.take_succ_eq_append_getElem h1, h2, del_append]
  congr 1
  unfold del
  by_cases hk : r.1 = k <;> simp [hk]
theorem take_succ_has (k : ByteArray) {l : List Rw} {i : Nat} {r : Rw} (h : l[i]? = some r) : has (l.take (i + 1)) k = (has (l.take i) k || decide (r.1 = k)) := by
  obtain ⟨h1, h2⟩ := List.getElem?_eq_some_iff.1 h
  rw [List.take_succ_eq_append_getElem h1, h2]
  simp [has]
theorem del_len (l : List Rw) (k : ByteArray) : (del l k).length ≤ l.length := List.length_filter_le _ _
/-- Where place stands: all ahead of i are smaller. -/
def ahead (l : List Rw) (k : ByteArray) (i : Nat) : Prop := ∀ j r, j < i → l[j]? = some r → lt r.1 k = true
theorem place_at {l : List Rw} {k : ByteArray} {i : Nat} (ha : ahead l k i) (hi : i ≤ l.length) (h : ∀ r, l[i]? = some r → lt r.1 k = false) : place l k = i := by
  induction l generalizing i with
  | nil => simp at hi; subst hi; rfl
  | cons a l ih =>
    cases i with
    | zero =>
      have := h a rfl
      simp [place, this]
    | succ i =>
      have h1 := ha 0 a (by omega) rfl
      have h2 := ih (i := i) (fun j r hj hr => ha (j + 1) r (by omega) hr) (by simpa using hi) (fun r hr => h r hr)
      unfold place at h2 ⊢
      rw [List.takeWhile_cons, h1, if_pos rfl, List.length_cons, h2]
set_option maxRecDepth 100000 in
set_option maxHeartbeats 4000000 in
theorem refPlace_any (ad : Option Addr) (n cap : Nat) (l : List Rw) (key : ByteArray) (w : World) (h : RdS w ad n cap l) (hlen : n ≤ 20001) :
    Calls Try.prog 34 #[.agg #[.slice ad n cap], .string key] w fun e w' => e = .returned (.int .i64 (place l key : Int)) ∧ Below w.heap.size w w' := by
  have HN := Lib.hid h.len
  have HR := Lib.hid h.rd
  clear h
  have hb0 := Lib.hid ((Below.refl w.heap.size w).alloc (Nat.le_refl _) (.cells #[.slice ad n cap] 30))
  have d0 : (w.alloc (.cells #[.slice ad n cap] 30)).cell? ⟨w.heap.size, 0, none⟩ = some (.slice ad n cap) := (Blk.new w _ _).at_ 0
  have hsz := World.size_alloc w (.cells #[.slice ad n cap] 30)
  go_enter Try.func34, Try.ntmps34
  go_wp2_with fail
  generalize (w.alloc (.cells #[.slice ad n cap] 30)) = W0 at hb0 d0 hsz ⊢
  go_loopw [5] (fun i wr => ∃ k : Nat, k ≤ n ∧ i = .int .i64 k ∧ Hid (ahead l key k) ∧ Hid (wr = W0)) (fun i _ => n - (intOf i).toNat)
  case atStart => exact ⟨0, Nat.zero_le _, rfl, Lib.hid (fun j r hj => by omega), Lib.hid rfl⟩
  case round =>
    obtain ⟨k, hk, rfl, hA, hW⟩ := hrel
    obtain rfl := hW.out
    clear hW
    by_cases hkn : k < n
    · have hkn2 : (k : Int) < (n : Int) := by omega
      obtain ⟨r, hr⟩ : ∃ r, Hid (l[k]? = some r) := ⟨l[k]'(by rw [HN.out]; exact hkn), Lib.hid (by simp)⟩
      obtain ⟨b, off, rfl, hblt, c0, c1⟩ := rdR (HR.out.below hb0.out (Nat.le_refl _)) k r hr.out
      have hb1 : b < wr.heap.size := by omega
      cases hc : lt r.1 key with
      | true =>
        have f1 : Op.bytesLess r.1.toList key.toList = true := by rw [toList_lt]; exact hc
        have HC := Lib.hid hc
        clear hc hblt
        go_wp2_with fail
        go_roundw
        case rel => exact ⟨k + 1, by omega, by go_num, Lib.hid (fun j r' hj hr' => by
          by_cases hjk : j = k
          · subst hjk; have h9 := hr.out; rw [h9] at hr'; cases hr'; exact HC.out
          · exact hA.out j r' (by omega) hr'), (by first | exact Lib.hid rfl | exact Lib.hid trivial)⟩
        case measure => simp [intOf]; omega
      | false =>
        have f1 : Op.bytesLess r.1.toList key.toList = false := by rw [toList_lt]; exact hc
        have HC := Lib.hid hc
        clear hc hblt
        go_wp2_with fail
        go_ret
        refine ⟨by rw [place_at hA.out (by rw [HN.out]; exact hk) (fun r' hr' => by have h9 := hr.out; rw [h9] at hr'; cases hr'; exact HC.out)]; rfl, hb0.out⟩
    · have hkn2 : ¬ (k : Int) < (n : Int) := by omega
      obtain rfl : k = n := by omega
      go_wp2_with fail
      go_ret
      refine ⟨by rw [place_at hA.out (by rw [HN.out]; exact hk) (fun r' hr' => by have := (List.getElem?_eq_some_iff.1 hr').1; have := HN.out; omega)]; rfl, hb0.out⟩
set_option maxRecDepth 100000 in
set_option maxHeartbeats 4000000 in
theorem refDelete_any (ad : Option Addr) (n cap : Nat) (l : List Rw) (key : ByteArray) (w : World) (h : RdS w ad n cap l) (hlen : n ≤ 20001) :
    Calls Try.prog 33 #[.agg #[.slice ad n cap], .string key] w fun e w' => ∃ ad' n' c', e = .returned (.tuple #[.agg #[.slice ad' n' c'], .bool (has l key)]) ∧ ER.Own w' w.heap.size (.slice ad' n' c') (del l key) ∧ Below w.heap.size w w' := by
  have HN := Lib.hid h.len
  have HR := Lib.hid h.rd
  clear h
  have hst := Lib.hid (Elt.Own.nil ER (((w.alloc (.cells #[.slice ad n cap] 30)).alloc (.cells #[.slice none 0 0] 30)).alloc (.cells #[.slice none 0 0] 30)) (w.heap.size + 3))
  have hb0 := Lib.hid ((((Below.refl w.heap.size w).alloc (Nat.le_refl _) (.cells #[.slice ad n cap] 30)).alloc (by simp) (.cells #[.slice none 0 0] 30)).alloc (by simp; omega) (.cells #[.slice none 0 0] 30))
  have b1 := ((Blk.new (w.alloc (.cells #[.slice ad n cap] 30)) #[.slice none 0 0] 30).alloc (.cells #[.slice none 0 0] 30))
  have b2 := Blk.new ((w.alloc (.cells #[.slice ad n cap] 30)).alloc (.cells #[.slice none 0 0] 30)) #[.slice none 0 0] 30
  simp only [World.size_alloc] at b1 b2
  have B1 := Lib.hid b1
  have B2 := Lib.hid b2
  clear b1 b2
  go_enter Try.func33, Try.ntmps33
  go_wp2_with fail
  go_loopw [7, 14] (fun was i wr => ∃ (k : Nat) (ad' : Option Addr) (n' c' : Nat), k ≤ n ∧ i = .int .i64 k ∧ was = .bool (has (l.take k) key) ∧ Hid (Blk wr (w.heap.size + 1) 30 #[.slice none 0 0]) ∧ Hid (Blk wr (w.heap.size + 1 + 1) 30 #[.slice ad' n' c']) ∧ Hid (ER.Own wr w.heap.size (.slice ad' n' c') (del (l.take k) key)) ∧ Hid (Below w.heap.size w wr)) (fun _ i _ => n - (intOf i).toNat)
  case atStart => exact ⟨0, none, 0, 0, Nat.zero_le _, rfl, rfl, B1, B2, Lib.hid (hst.out.mono (fun k hk => by cases hk)), hb0⟩
  case round =>
    obtain ⟨k, ad', n', c', hk, rfl, rfl, hB1, hB2, hO, hB⟩ := hrel
    clear hst hb0 B1 B2
    have e0 := hB2.out.at_ 0
    have f0 := hB2.out.free 0
    have g1 := hB1.out.at_ 0
    have g0 := hB1.out.free 0
    by_cases hkn : k < n
    · have hkn2 : (k : Int) < (n : Int) := by omega
      obtain ⟨r, hr⟩ : ∃ r, Hid (l[k]? = some r) := ⟨l[k]'(by rw [HN.out]; exact hkn), Lib.hid (by simp)⟩
      obtain ⟨b, off, rfl, hblt, c0, c1⟩ := rdR (HR.out.below hB.out (Nat.le_refl _)) k r hr.out
      have hd := Lib.hid (take_succ_del key hr.out)
      have hh := Lib.hid (take_succ_has key hr.out)
      have hlb : Hid ((del (l.take k) key).length + 1 ≤ 274877906944) := Lib.hid (by have h1 := del_len (l.take k) key; rw [List.length_take] at h1; omega)
      have hB3 := Lib.hid (hB.out.alloc hB.out.size (.cells #[.string r.1, .string r.2] 25))
      have hO3 := Lib.hid (hO.out.alloc (.cells #[.string r.1, .string r.2] 25))
      have hB23 := Lib.hid (hB2.out.alloc (.cells #[.string r.1, .string r.2] 25))
      have hB13 := Lib.hid (hB1.out.alloc (.cells #[.string r.1, .string r.2] 25))
      have hbw : b < wr.heap.size := Nat.lt_of_lt_of_le hblt hB.out.size
      have hxw : w.heap.size + 1 + 1 < wr.heap.size := hB2.out.lt
      by_cases he : r.1 = key
      · have f1 : (r.1.toList == key.toList) = true := by rw [he]; simp
        rw [if_pos he, List.append_nil] at hd
        rw [decide_eq_true he, Bool.or_true] at hh
        have HE := Lib.hid he
        clear he hblt
        go_wp2_with fail
        go_roundw
        case rel => exact ⟨k + 1, _, _, _, by omega, by go_num, by rw [hh.out], hB13, hB23, by rw [hd.out]; exact hO3, hB3⟩
        case measure => simp [intOf]; omega
      · have f1 : (r.1.toList == key.toList) = false := toList_ne he
        rw [if_neg he] at hd
        rw [decide_eq_false he, Bool.or_false] at hh
        have HE := Lib.hid he
        clear he hblt
        obtain ⟨rk, rv⟩ := r
        dsimp only at c0 c1 f1 hB3 hO3 hB23 hB13
        go_wp2_with (at_builtin; refine ER.wpList_app rfl _ _ (by rfl) w.heap.size _ _ [(rk, rv)] _ _ (by rfl) hO3.out _ 1 (by rfl) (by rfl) (by simp) (by rfl) hlb.out hB3.out.size ?_; intro ad2 n2 c2' w2 h2; have q2 := h2.out.upd.blk hB23.out (hO3.out.apart hB23.out (by decide)); have q1 := h2.out.upd.blk hB13.out (hO3.out.apart hB13.out (by decide)); have x0 := q2.at_ 0; have x1 := q2.free 0)
        have HB4 := Lib.hid ((h2.out.below hO3.out hB3.out hB3.out.size).setCell (p := ⟨w.heap.size + 1 + 1, 0, none⟩) (by simp; omega) (.slice ad2 n2 c2'))
        go_roundw
        case rel => exact ⟨k + 1, ad2, n2, c2', by omega, by go_num, by rw [hh.out], Lib.hid (q1.other (by simp) _), Lib.hid (q2.set (j := 0) (.slice ad2 n2 c2')), by rw [hd.out]; exact Lib.hid (h2.out.own.same fun g hg => Below.heap_setCell _ _ _ _ (fun e => h2.out.own.apart q2 (by decide) (by have e' : g = w.heap.size + 1 + 1 := e; subst e'; exact hg))), HB4⟩
        case measure => simp [intOf]; omega
    · have hkn2 : ¬ (k : Int) < (n : Int) := by omega
      obtain rfl : k = n := by omega
      rw [List.take_of_length_le (by rw [HN.out]; exact Nat.le_refl _)] at hO
      have et : l.take k = l := List.take_of_length_le (by rw [HN.out]; exact Nat.le_refl _)
      rw [et]
      clear et
      go_wp2_with fail
      have z0 : (wr.setCell ⟨w.heap.size + 1, 0, none⟩ (.slice ad' n' c')).cell? ⟨w.heap.size + 1, 0, none⟩ = some (.slice ad' n' c') := (hB1.out.set (j := 0) (.slice ad' n' c')).at_ 0
      refine bodyPost_ret (v := .tuple #[.agg #[.slice ad' n' c'], .bool (has l key)]) ?_ rfl ?_
      · simp [results, Try.f33, go_sem, z0]
      · exact ⟨_, _, _, rfl, hO.out.same fun g hg => Below.heap_setCell _ _ _ _ (fun e => hO.out.apart hB1.out (by decide) (by have e' : g = w.heap.size + 1 := e; subst e'; exact hg)), hB.out.setCell (p := ⟨w.heap.size + 1, 0, none⟩) (by simp) _⟩
end Go.Proofs.Ytiffjjophmgdlaa
