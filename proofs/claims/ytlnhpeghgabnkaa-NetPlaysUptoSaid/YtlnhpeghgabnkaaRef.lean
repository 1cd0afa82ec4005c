/-
  Layer 25: the document's answer: lists of packets.
-/
import Derived.Test.YtlnhpeghgabnkaaIt
namespace Go.Proofs.Ytlnhpeghgabnkaa
open Go.RowKit
attribute [local go_sem ↓] Go.wp_at_zero Go.wp_at_succ

/-- A slice that reads as these packets, its parts by name. -/
structure RdS (w : World) (ad : Option Addr) (n cap : Nat) (l : List Pk) : Prop where
  len : l.length = n
  rd : EP.Rd w w.heap.size ad l
  nil : ad = none → cap = 0
  le : n ≤ cap
theorem RdS.later {w w' : World} {ad : Option Addr} {n cap : Nat} {l : List Pk} (h : RdS w ad n cap l) (hb : Below w.heap.size w w') : RdS w' ad n cap l := ⟨h.len, h.rd.later hb, h.nil, h.le⟩
theorem RdS.of_own {w : World} {B n cap : Nat} {ad : Option Addr} {l : List Pk} (h : EP.Own w B (.slice ad n cap) l) : RdS w ad n cap l := by
  refine ⟨h.len_eq.1, h.rd, fun e => ?_, h.len_eq.2⟩
  subst e
  rcases h.form with ⟨h1, _⟩ | ⟨g, cap', h1, _⟩
  · simp only [Value.slice.injEq] at h1; exact h1.2.2
  · simp at h1
/-- An empty slice literal, made now. -/
theorem own_lit0 (w : World) (B : Nat) (hB : B ≤ w.heap.size) : EP.Own (w.alloc (.cells #[] 40)) B (.slice (some ⟨w.heap.size, 0, none⟩) 0 0) [] := Elt.Own.lit (E := EP) (n := 0) B hB rfl (by omega) #[] rfl
set_option maxRecDepth 100000 in
set_option maxHeartbeats 8000000 in
theorem refSend_any (ad : Option Addr) (n cap : Nat) (l : List Pk) (lad : Option Addr) (ln lcap : Nat) (ms : List Msg) (w : World) (h : RdS w ad n cap l) (hn : ms.length = ln) (hr : EM.Rd w w.heap.size lad ms) (hlen : l.length + ln ≤ 1073741824) :
    Calls Try.prog 22 #[.slice ad n cap, .slice lad ln lcap] w fun e w' => ∃ ad' n' c', e = .returned (.slice ad' n' c') ∧ EP.Own w' w.heap.size (.slice ad' n' c') (l ++ ms.map pkM) ∧ Below w.heap.size w w' := by
  have H := Lib.hid h
  have HR := Lib.hid hr
  have HN := Lib.hid hn
  have HL := Lib.hid hlen
  have hnb : ln ≤ 1073741824 := by omega
  have hst := Lib.hid (own_lit0 w w.heap.size (Nat.le_refl _))
  have hrd : Hid (EP.Rd (w.alloc (.cells #[] 40)) (w.alloc (.cells #[] 40)).heap.size ad l) := Lib.hid (h.later ((Below.refl _ _).alloc (Nat.le_refl _) _)).rd
  have hB0 : Hid (Below w.heap.size w (w.alloc (.cells #[] 40))) := Lib.hid ((Below.refl _ _).alloc (Nat.le_refl _) _)
  clear h hr hn hlen
  go_enter Try.func22, Try.ntmps22
  go_wp2_with (at_builtin; refine EP.wpList_appL rfl _ _ (by rfl) w.heap.size _ [] l _ (by rfl) hst.out ad n cap (by rfl) H.out.len hrd.out H.out.nil (by have := HL.out; simp; omega) (by simp) ?_; intro ad2 n2 c2 w2 h2)
  have HB2 := Lib.hid (h2.out.below hst.out hB0.out (by simp))
  rw [List.nil_append] at h2
  clear hrd
  go_loopw [5, 6] (fun v i wr => ∃ (k : Nat) (ad' : Option Addr) (n' c' : Nat), k ≤ ln ∧ i = .int .i64 k ∧ v = .slice ad' n' c' ∧ Hid (EP.Own wr w.heap.size (.slice ad' n' c') (l ++ (ms.take k).map pkM)) ∧ Hid (Below w.heap.size w wr)) (fun _ i _ => ln - (intOf i).toNat)
  case atStart => exact ⟨0, _, _, _, by omega, rfl, rfl, by rw [List.take_zero, List.map_nil, List.append_nil]; exact Lib.hid h2.out.own, HB2⟩
  case round =>
    obtain ⟨k, ad', n', c', hk, rfl, rfl, hO, hB⟩ := hrel
    clear h2 HB2 hB0 hst
    by_cases hkn : k < ln
    · have hkn2 : (k : Int) < (ln : Int) := by omega
      obtain ⟨m, hm⟩ : ∃ m, Hid (ms[k]? = some m) := ⟨ms[k]'(by rw [HN.out]; exact hkn), Lib.hid (by simp)⟩
      obtain ⟨b, off, rfl, hblt, c0, c1, c2, c3, c4, c5, c6⟩ := rdM (HR.out.below hB.out (Nat.le_refl _)) k m hm.out
      have hnx := Lib.hid (take_succ_map pkM ms k m hm.out)
      have hlb : Hid ((l ++ (ms.take k).map pkM).length + 1 ≤ 274877906944) := by
        have := HL.out
        refine Lib.hid ?_
        rw [List.length_append, List.length_map, List.length_take]
        omega
      obtain ⟨r', k', t', a', m', q', p'⟩ := m
      dsimp only at c0 c1 c2 c3 c4 c5 c6
      clear hblt
      go_wp2_with (at_builtin; refine EP.wpList_app rfl _ _ (by rfl) w.heap.size _ _ [pkM ⟨r', k', t', a', m', q', p'⟩] _ _ (by rfl) hO.out _ 1 (by rfl) (by rfl) (by rfl) (by rfl) hlb.out hB.out.size ?_; intro ad2 n2 c2' w2 h2)
      have HB3 := Lib.hid (h2.out.below hO.out hB.out hB.out.size)
      go_roundw
      case rel => exact ⟨k + 1, _, _, _, by omega, by go_num, rfl, by rw [hnx.out, ← List.append_assoc]; exact Lib.hid h2.out.own, HB3⟩
      case measure => simp [intOf]; omega
    · have hkn2 : ¬ (k : Int) < (ln : Int) := by omega
      obtain rfl : k = ln := by omega
      rw [List.take_of_length_le (by rw [HN.out]; exact Nat.le_refl _)] at hO
      go_wp2_with fail
      go_ret
      exact ⟨_, _, _, rfl, hO.out, hB.out⟩
theorem ans_cells {w : World} {g : Nat} {t : TypeId} {x0 x1 x2 : Value} (h : Blk w g t #[x0, x1, x2]) : w.cell? ⟨g, 0, none⟩ = some x0 ∧ w.cell? ⟨g, 1, none⟩ = some x1 ∧ w.cell? ⟨g, 2, none⟩ = some x2 := ⟨h.at_ 0, h.at_ 1, h.at_ 2⟩
theorem blk_new' (W : World) (c1 c2 : Array Value) (t1 t2 : TypeId) : Blk ((W.alloc (.cells c1 t1)).alloc (.cells c2 t2)) (W.heap.size + 1) t2 c2 := by
  have := Blk.new (W.alloc (.cells c1 t1)) c2 t2
  rw [World.size_alloc] at this
  exact this
end Go.Proofs.Ytlnhpeghgabnkaa
