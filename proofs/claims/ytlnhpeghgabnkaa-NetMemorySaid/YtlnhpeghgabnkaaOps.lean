/-
  Walks over layer 25: Reply, Len, has, Clone.
-/
import Derived.Test.YtlnhpeghgabnkaaDel
namespace Go.Proofs.Ytlnhpeghgabnkaa
open Go.RowKit
attribute [local go_sem ↓] Go.wp_at_zero Go.wp_at_succ

set_option maxRecDepth 100000 in
set_option maxHeartbeats 8000000 in
theorem reply_any (B bn : Nat) (v : Value) (l : List Pk) (a : Ans) (w : World) (h : NetAt w B bn v l) (hBw : B ≤ w.heap.size) (hlen : l.length ≤ 1759218604400) :
    Calls Try.prog 13 #[.pointer (some ⟨bn, 0, none⟩), .agg #[.int .i64 a.r, .int .i64 a.k, .string a.t]] w fun e w' => e = .returned (.tuple #[]) ∧ NetGo B bn v (l ++ [pkA a]) w w' := by
  have H := Lib.hid h
  have HBw := Lib.hid hBw
  have hlb : Hid (l.length + 1 ≤ 1800000000000) := Lib.hid (by omega)
  obtain ⟨r', k', t'⟩ := a
  dsimp only
  have hcn := h.cell
  have hfn := h.free
  have hnl := h.lt
  obtain ⟨W, hW⟩ : ∃ W, Hid (((w.alloc (.cells #[.int .i64 r', .int .i64 k', .string t'] 29)).alloc (.cells #[.bool true, .int .i64 0, .int .i64 0, .string ⟨#[]⟩, .int .i64 0, .int .i64 0, .string ⟨#[]⟩, .string ⟨#[]⟩, .int .i64 r', .int .i64 k', .string t'] 40)).drew = W) := ⟨_, Lib.hid rfl⟩
  have hAW : Hid (NetAt W B bn v l) := by rw [← hW.out]; exact Lib.hid ((h.alloc _).alloc _).drew
  have hU7 : Hid (Upd (fun k => k = bn ∨ v.ownBlock = some k) w W) := by rw [← hW.out]; exact Lib.hid (((Upd.refl _ _).alloc _).alloc _).drew
  have hb11 : Hid (Blk W (w.heap.size + 1) 40 #[.bool true, .int .i64 0, .int .i64 0, .string ⟨#[]⟩, .int .i64 0, .int .i64 0, .string ⟨#[]⟩, .string ⟨#[]⟩, .int .i64 r', .int .i64 k', .string t']) := by
    rw [← hW.out]
    have := Blk.new (w.alloc (.cells #[.int .i64 r', .int .i64 k', .string t'] 29)) #[.bool true, .int .i64 0, .int .i64 0, .string ⟨#[]⟩, .int .i64 0, .int .i64 0, .string ⟨#[]⟩, .string ⟨#[]⟩, .int .i64 r', .int .i64 k', .string t'] 40
    rw [World.size_alloc] at this
    exact Lib.hid this.drew
  have hBW : Hid (B ≤ W.heap.size) := Lib.hid (Nat.le_trans hBw hU7.out.size)
  clear h hBw hlen
  go_enter Try.func13, Try.ntmps13
  go_wp2_with fail
  go_region_law ((rw [hW.out]; refine EP.step_app rfl _ _ (by rfl) B v l [pkA ⟨r', k', t'⟩] W (by rfl) hAW.out.own (w.heap.size + 1) 1 (by rfl) (by rfl) _ hb11.out (by rfl) hlb.out hBW.out ?_; intro ad2 n2 c2 w2 h2; have hkn := NetAt.kept h2.out hAW.out.blk hAW.out (by decide); have hkc := hkn.at_ 0; have hkf := hkn.free 0))
  all_goals
    go_wp2_with fail
    go_end0
    exact ⟨rfl, NetGo.trans hU7.out (fun _ hk => .inl hk) (hAW.out.stored h2.out)⟩
theorem len_any (B bn : Nat) (v : Value) (l : List Pk) (w : World) (h : NetAt w B bn v l) :
    Calls Try.prog 18 #[.pointer (some ⟨bn, 0, none⟩)] w fun e w' => e = .returned (.int .i64 (l.length : Int)) ∧ w = w' := by
  obtain ⟨ad, n, cap, rfl, hn, hc⟩ := h.form
  have hcn := h.cell
  rw [hn]
  clear h hn
  go_enter Try.func18, Try.ntmps18
  go_wp2
  go_ret
  exact ⟨rfl, rfl⟩
theorem has_any (B bn : Nat) (v : Value) (l : List Pk) (n : Nat) (hn : l.length = n) (i : Int) (w : World) (h : NetAt w B bn v l) :
    Calls Try.prog 26 #[.pointer (some ⟨bn, 0, none⟩), .int .i64 i] w fun e w' => e = .returned (.bool (hasB n i)) ∧ w = w' := by
  obtain ⟨ad, n', cap, rfl, hn', hc⟩ := h.form
  have hcn := h.cell
  obtain rfl : n' = n := by omega
  clear h hn hn'
  by_cases h0 : 0 ≤ i
  · by_cases h1 : i < (n' : Int)
    · have e : hasB n' i = true := by simp [hasB, h0, h1]
      rw [e]
      clear e
      go_enter Try.func26, Try.ntmps26
      go_wp2
      go_ret
      exact ⟨rfl, rfl⟩
    · have e : hasB n' i = false := by simp [hasB, h1]
      rw [e]
      clear e
      go_enter Try.func26, Try.ntmps26
      go_wp2
      go_ret
      exact ⟨rfl, rfl⟩
  · have e : hasB n' i = false := by simp [hasB, h0]
    rw [e]
    clear e
    go_enter Try.func26, Try.ntmps26
    go_wp2
    go_ret
    exact ⟨rfl, rfl⟩
theorem clone_any (B : Nat) (v : Value) (l : List Pk) (w : World) (h : EP.Own w B v l) (hlen : l.length ≤ 1759218604400) :
    Calls Try.prog 28 #[v] w fun e w' => ∃ ad n cap, e = .returned (.slice ad n cap) ∧ EP.Own w' w.heap.size (.slice ad n cap) l ∧ Below w.heap.size w w' := by
  have q1 : ∀ (W : World) (a : Option Addr) (n c n' c' : Nat), (binOp .eql 26 (.slice a n c) (.slice none n' c')).run Try.prog W = .ok (.bool a.isNone) W := fun W a n c n' c' => Lib.run_eql_slice_nil W _ _ a n c n' c' Try.underlying26
  rcases h.form with ⟨rfl, rfl⟩ | ⟨g, cap, rfl, hc, _⟩
  · clear h hlen
    go_enter Try.func28, Try.ntmps28
    go_wp2
    go_ret
    exact ⟨none, 0, 0, rfl, Elt.Own.nil _ _ _, Below.refl _ _⟩
  · have hO := Lib.hid h
    obtain ⟨n, hn⟩ : ∃ n, Hid (l.length = n) := ⟨_, Lib.hid rfl⟩
    rw [hn.out] at hc hlen hO ⊢
    clear h
    have hst : Hid (EP.Own (w.alloc (.cells #[] 40)) w.heap.size (.slice (some ⟨w.heap.size, 0, none⟩) 0 0) []) := Lib.hid (Elt.Own.lit (E := EP) (n := 0) w.heap.size (Nat.le_refl _) rfl (by omega) #[] rfl)
    have hrd : Hid (EP.Rd (w.alloc (.cells #[] 40)) (w.alloc (.cells #[] 40)).heap.size (some ⟨g, 0, none⟩) l) := Lib.hid ((hO.out.alloc _).rd)
    go_enter Try.func28, Try.ntmps28
    go_wp2_with (at_builtin; refine EP.wpList_appL rfl _ _ (by rfl) w.heap.size _ [] l _ (by rfl) hst.out (some ⟨g, 0, none⟩) n cap (by rfl) hn.out hrd.out (fun e => by cases e) (by have := hn.out; simp; omega) (by simp) ?_; intro ad2 n2 c2 w2 h2)
    go_ret
    exact ⟨_, _, _, rfl, h2.out.own, h2.out.below hst.out ((Below.refl _ _).alloc (Nat.le_refl _) _) (by simp)⟩
end Go.Proofs.Ytlnhpeghgabnkaa
