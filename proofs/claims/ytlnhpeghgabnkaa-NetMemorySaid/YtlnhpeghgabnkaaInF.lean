/-
  How many messages an argument may hold: by the form's reach.
-/
import Derived.Test.YtlnhpeghgabnkaaIn
namespace Go.Proofs.Ytlnhpeghgabnkaa
open Go.RowKit Go.ChangeShapes Go.WideShapes

theorem reach_at {H : Type} {P : Program} : ∀ {ts : List TypeId} {ds : List (DataW H)}, (DataW.weightsEach P ts ds).all (· ≤ reachBytes) = true → ∀ (j : Nat) {t : TypeId} {d : DataW H}, ts[j]? = some t → ds[j]? = some d → ∀ x ∈ d.weights P t, x ≤ reachBytes
  | [], _, _, j, _, _, ht, _ => by simp at ht
  | _ :: _, [], _, j, _, _, _, hd => by simp at hd
  | t0 :: ts, d0 :: ds, hz, j, t, d, ht, hd => by
    rw [DataW.weightsEach, List.all_append, Bool.and_eq_true] at hz
    cases j with
    | zero =>
      simp only [List.getElem?_cons_zero, Option.some.injEq] at ht hd
      subst ht hd
      exact fun x hx => of_decide_eq_true (List.all_eq_true.1 hz.1 x hx)
    | succ j => exact reach_at hz.2 j (by simpa using ht) (by simpa using hd)
theorem len_of_trod {H : Type} {enc : TypeId × Value → H} {W : World} {fuel : Nat} {ad : Option Addr} {n cap : Nat} {d : DataW H} {p : List MemPlace}
    (h : DataW.trod enc Try.prog W 0 (fun _ => true) true fuel 27 [.slice ad n cap] = some (d, p)) (hw : ∀ x ∈ d.weights Try.prog 27, x ≤ reachBytes) : n ≤ 1759218604390 := by
  rcases struct_slice Try.underlying27 Try.underlying38 (by kernel_rfl) (by kernel_rfl) (by decide) h with rfl | ⟨b, off, D, R, rfl, hl, hm, rfl, hps, hi⟩
  · omega
  · have hby : Try.prog.bytesOf 38 = 80 := by kernel_rfl
    unfold DataW.weights at hw
    rw [Try.underlying27] at hw
    dsimp only at hw
    rw [hby] at hw
    have := hw _ (List.mem_cons_self ..)
    simp only [List.length_map, List.length_range, reachBytes] at this
    omega
end Go.Proofs.Ytlnhpeghgabnkaa
