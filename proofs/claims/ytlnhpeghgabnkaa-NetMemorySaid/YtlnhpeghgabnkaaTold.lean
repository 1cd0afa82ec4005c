/-
  Layer 25: Lose, told.
-/
import Derived.Test.YtlnhpeghgabnkaaWalked
namespace Go.Proofs.Ytlnhpeghgabnkaa
open Go.RowKit
attribute [local go_sem ↓] Go.wp_at_zero Go.wp_at_succ

theorem NetAt.below {w w' : World} {B bn : Nat} {v : Value} {l : List Pk} (h : NetAt w B bn v l) (hb : Below w.heap.size w w') : NetAt w' B bn v l := h.upd (Upd.of_below hb) (fun h => h) (fun _ _ h => h)
set_option maxRecDepth 100000 in
set_option maxHeartbeats 8000000 in
theorem lose_yes (B bn : Nat) (v : Value) (l : List Pk) (p : Pk) (j : Nat) (hj : l[j]? = some p) (w : World) (h : NetAt w B bn v l) (hlen : l.length ≤ 1759218604400) :
    Calls Try.prog 15 #[.pointer (some ⟨bn, 0, none⟩), .int .i64 (j : Int)] w fun e w' => e = .returned (.bool true) ∧ NetGo B bn v (l.eraseIdx j) w w' := by
  have hT := hide (take_yes B bn v l p j hj w h hlen)
  obtain ⟨pb, ⟨mr, mk, mt, ma, mm, mc, mp⟩, ⟨ar, ak, at'⟩⟩ := p
  clear hj h hlen
  go_enter Try.func15, Try.ntmps15
  go_wp2_with fail
  refine (unhide hT).mono ?_
  rintro e w1 ⟨rfl, hg⟩
  have HG := Lib.hid hg
  dsimp only [Pk.cs]
  clear hg
  go_wp2_with fail
  go_ret
  obtain ⟨v', h1, h2, h3⟩ := HG.out
  exact ⟨rfl, v', h1.alloc _, h2.alloc _, h3⟩
theorem lose_no (B bn : Nat) (v : Value) (l : List Pk) (n : Nat) (hn : l.length = n) (i : Int) (hi : hasB n i = false) (w : World) (h : NetAt w B bn v l) :
    Calls Try.prog 15 #[.pointer (some ⟨bn, 0, none⟩), .int .i64 i] w fun e w' => e = .returned (.bool false) ∧ Below w.heap.size w w' := by
  have hT := hide (take_no B bn v l n hn i hi w h)
  clear hi h
  go_enter Try.func15, Try.ntmps15
  go_wp2_with fail
  refine (unhide hT).mono ?_
  rintro e w1 ⟨rfl, hb⟩
  have HB := Lib.hid hb
  simp only [Pk.zero, Msg.zero, Ans.zero, Pk.cs]
  clear hb
  go_wp2_with fail
  go_ret
  exact ⟨rfl, HB.out.alloc HB.out.size _⟩
set_option maxRecDepth 100000 in
set_option maxHeartbeats 8000000 in
theorem told_any (B bn : Nat) (v : Value) (l : List Pk) (ad : Option Addr) (n cap : Nat) (w : World) (h : NetAt w B bn v l) (hn : l.length = n) (hr : EP.Rd w w.heap.size ad l) (hlen : l.length ≤ 1759218604400) :
    Calls Try.prog 10 #[.pointer (some ⟨bn, 0, none⟩), .slice ad n cap] w fun e w' => e = .returned (.bool true) ∧ Below w.heap.size w w' := by
  have H := Lib.hid h
  have HR := Lib.hid hr
  have HN := Lib.hid hn
  have HL := Lib.hid hlen
  have hnn : ((n : Int) == (n : Int)) = true := by simp
  have hnf : ∀ (f : Fn) (a b : Array Value) (W : World), (binOp .neq 51 (.func f a b) .nilFunc).run Try.prog W = .ok (.bool true) W := fun f a b W => by kernel_rfl
  clear h hr hn hlen
  go_enter Try.func10, Try.ntmps10
  go_wp2_with fail
  refine (all_any B bn v l w H.out HL.out).mono ?_
  rintro e w1 ⟨x, rfl, hx, hI, hb⟩
  have HI := Lib.hid hI
  have HB1 := Lib.hid hb
  clear hx hI hb
  go_wp2_with fail
  refine (walked_any x ad n cap (-1) l HL.out HN.out w1 HI.out (HR.out.later HB1.out)).mono ?_
  rintro e w2 ⟨rfl, hb⟩
  have HB2 := Lib.hid (HB1.out.trans (hb.mono HB1.out.size))
  clear hb
  go_wp2_with fail
  refine (len_any B bn v l w2 (H.out.below HB2.out)).mono ?_
  rintro e w3 ⟨rfl, rfl⟩
  rw [HN.out]
  go_wp2_with fail
  go_ret
  exact ⟨rfl, HB2.out⟩
end Go.Proofs.Ytlnhpeghgabnkaa
