/-
  Layer 11: the closures that Range and Back hand on as yield (printed by gen_r11clo.py).
-/
import Derived.Test.YtiffjjophmgdlaaRisC
namespace Go.Proofs.Ytiffjjophmgdlaa
open Go.RowKit Tb
attribute [local go_sem] Oper.semAt_some

set_option maxHeartbeats 4000000 in
theorem range_yes (l : Nat) (m hb yb : Nat) (k v hi : ByteArray) (W : World) (R : Ending → World → Prop) (hlt : lt k hi = true) (c0 : W.cell? ⟨hb, 0, none⟩ = some (.string hi)) (c1 : W.cell? ⟨yb, 0, none⟩ = some (.func (.yield l) #[] #[]))
    (hY : YieldAt Fence.wide (m - 1) Try.prog l #[.string k, .string v] W fun e W' => (e = .returned (.bool true) ∨ e = .returned (.bool false)) ∧ R e W') :
    CallsIn Fence.wide m Try.prog 25 #[.string k, .string v, .pointer (some ⟨hb, 0, none⟩), .pointer (some ⟨yb, 0, none⟩)] W R := by
  have f1 : Op.bytesLess k.toList hi.toList = true := by rw [toList_lt]; exact hlt
  have hdd : Fence.wide.depth.isSome = true → 1 ≤ m := fun h => by cases h
  obtain ⟨fn, tmps, assign, body, hy, hR⟩ := hY
  have HR := hide hR
  clear hR hlt
  refine callsIn_of_wp Try.func25 rfl trivial ?_ rfl
  simp only [Try.ntmps25, List.size_toArray, List.length_cons, List.length_nil, Nat.reduceAdd, Nat.reduceSub, Array.replicate_succ, Array.replicate_zero, List.push_toArray, List.append_toArray, List.nil_append, List.cons_append]
  gi_wp2_with fail
  refine ⟨hdd, (unhide HR).mono ?_⟩
  rintro e W' ⟨rfl | rfl, hr⟩
  all_goals
    gi_wp2_with fail
    exact hr
set_option maxHeartbeats 4000000 in
theorem range_no (m hb yb : Nat) (k v hi : ByteArray) (W : World) (R : Ending → World → Prop) (hlt : lt k hi = false) (c0 : W.cell? ⟨hb, 0, none⟩ = some (.string hi)) (hR : R (.returned (.bool false)) W) :
    CallsIn Fence.wide m Try.prog 25 #[.string k, .string v, .pointer (some ⟨hb, 0, none⟩), .pointer (some ⟨yb, 0, none⟩)] W R := by
  have f1 : Op.bytesLess k.toList hi.toList = false := by rw [toList_lt]; exact hlt
  clear hlt
  refine callsIn_of_wp Try.func25 rfl trivial ?_ rfl
  simp only [Try.ntmps25, List.size_toArray, List.length_cons, List.length_nil, Nat.reduceAdd, Nat.reduceSub, Array.replicate_succ, Array.replicate_zero, List.push_toArray, List.append_toArray, List.nil_append, List.cons_append]
  gi_wp2_with fail
  refine ⟨fun _ h => (by cases h), ?_⟩
  gi_wp2
  exact hR
set_option maxHeartbeats 4000000 in
theorem back_yes (l : Nat) (m hb yb : Nat) (k v hi : ByteArray) (W : World) (R : Ending → World → Prop) (hlt : lt k hi = false) (c0 : W.cell? ⟨hb, 0, none⟩ = some (.string hi)) (c1 : W.cell? ⟨yb, 0, none⟩ = some (.func (.yield l) #[] #[]))
    (hY : YieldAt Fence.wide (m - 1) Try.prog l #[.string k, .string v] W fun e W' => (e = .returned (.bool true) ∨ e = .returned (.bool false)) ∧ R e W') :
    CallsIn Fence.wide m Try.prog 28 #[.string k, .string v, .pointer (some ⟨hb, 0, none⟩), .pointer (some ⟨yb, 0, none⟩)] W R := by
  have f1 : Op.bytesLess k.toList hi.toList = false := by rw [toList_lt]; exact hlt
  have hdd : Fence.wide.depth.isSome = true → 1 ≤ m := fun h => by cases h
  obtain ⟨fn, tmps, assign, body, hy, hR⟩ := hY
  have HR := hide hR
  clear hR hlt
  refine callsIn_of_wp Try.func28 rfl trivial ?_ rfl
  simp only [Try.ntmps28, List.size_toArray, List.length_cons, List.length_nil, Nat.reduceAdd, Nat.reduceSub, Array.replicate_succ, Array.replicate_zero, List.push_toArray, List.append_toArray, List.nil_append, List.cons_append]
  gi_wp2_with fail
  refine ⟨hdd, (unhide HR).mono ?_⟩
  rintro e W' ⟨rfl | rfl, hr⟩
  all_goals
    gi_wp2_with fail
    exact hr
set_option maxHeartbeats 4000000 in
theorem back_no (m hb yb : Nat) (k v hi : ByteArray) (W : World) (R : Ending → World → Prop) (hlt : lt k hi = true) (c0 : W.cell? ⟨hb, 0, none⟩ = some (.string hi)) (hR : R (.returned (.bool false)) W) :
    CallsIn Fence.wide m Try.prog 28 #[.string k, .string v, .pointer (some ⟨hb, 0, none⟩), .pointer (some ⟨yb, 0, none⟩)] W R := by
  have f1 : Op.bytesLess k.toList hi.toList = true := by rw [toList_lt]; exact hlt
  clear hlt
  refine callsIn_of_wp Try.func28 rfl trivial ?_ rfl
  simp only [Try.ntmps28, List.size_toArray, List.length_cons, List.length_nil, Nat.reduceAdd, Nat.reduceSub, Array.replicate_succ, Array.replicate_zero, List.push_toArray, List.append_toArray, List.nil_append, List.cons_append]
  gi_wp2_with fail
  refine ⟨fun _ h => (by cases h), ?_⟩
  gi_wp2
  exact hR
end Go.Proofs.Ytiffjjophmgdlaa
