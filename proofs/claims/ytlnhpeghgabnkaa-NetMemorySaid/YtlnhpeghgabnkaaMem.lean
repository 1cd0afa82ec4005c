/-
  Layer 25: the walk of NetMemory.
-/
import Derived.Test.YtlnhpeghgabnkaaThree
namespace Go.Proofs.Ytlnhpeghgabnkaa
open Go.RowKit
attribute [local go_sem ↓] Go.wp_at_zero Go.wp_at_succ

theorem double0 (B bn : Nat) (v : Value) (l : List Pk) (w : World) (h : NetAt w B bn v l) (hBw : B ≤ w.heap.size) (hlen : l.length ≤ 1759218604400) :
    Calls Try.prog 16 #[.pointer (some ⟨bn, 0, none⟩), .int .i64 0] w fun e w' => ∃ b l', e = .returned (.bool b) ∧ (l'.length = if l.length = 0 then 0 else l.length + 1) ∧ NetGo B bn v l' w w' := by
  cases l with
  | nil =>
    refine (double_no B bn v [] 0 rfl 0 (by decide) w h).mono ?_
    rintro e w' ⟨rfl, rfl⟩
    exact ⟨_, [], rfl, rfl, NetGo.refl h⟩
  | cons p l =>
    refine (double_yes B bn v (p :: l) p 0 rfl w h hBw hlen).mono ?_
    rintro e w' ⟨rfl, hg⟩
    exact ⟨_, _, rfl, by simp, hg⟩
theorem lose0 (B bn : Nat) (v : Value) (l : List Pk) (w : World) (h : NetAt w B bn v l) (hlen : l.length ≤ 1759218604400) :
    Calls Try.prog 15 #[.pointer (some ⟨bn, 0, none⟩), .int .i64 0] w fun e w' => ∃ b l', e = .returned (.bool b) ∧ l'.length = l.length - 1 ∧ NetGo B bn v l' w w' := by
  cases l with
  | nil =>
    refine (lose_no B bn v [] 0 rfl 0 (by decide) w h).mono ?_
    rintro e w' ⟨rfl, hb⟩
    exact ⟨_, [], rfl, rfl, h.go (Upd.of_below hb)⟩
  | cons p l =>
    refine (lose_yes B bn v (p :: l) p 0 rfl w h hlen).mono ?_
    rintro e w' ⟨rfl, hg⟩
    exact ⟨_, _, rfl, by simp, hg⟩
theorem take0 (B bn : Nat) (v : Value) (l : List Pk) (w : World) (h : NetAt w B bn v l) (hlen : l.length ≤ 1759218604400) :
    Calls Try.prog 14 #[.pointer (some ⟨bn, 0, none⟩), .int .i64 0] w fun e w' => ∃ x l', e = .returned x ∧ l'.length = l.length - 1 ∧ NetGo B bn v l' w w' := by
  cases l with
  | nil =>
    refine (take_no B bn v [] 0 rfl 0 (by decide) w h).mono ?_
    rintro e w' ⟨rfl, hb⟩
    exact ⟨_, [], rfl, rfl, h.go (Upd.of_below hb)⟩
  | cons p l =>
    refine (take_yes B bn v (p :: l) p 0 rfl w h hlen).mono ?_
    rintro e w' ⟨rfl, hg⟩
    exact ⟨_, _, rfl, by simp, hg⟩
/-- An own list of messages lies apart from a Net. -/
theorem sep_msgs {w : World} {B bn B' n cap : Nat} {v : Value} {l : List Pk} {ad : Option Addr} {ms : List Msg} (h : NetAt w B bn v l) (hm : EM.Own w B' (.slice ad n cap) ms) : ∀ b off, ad = some ⟨b, off, none⟩ → b ≠ bn ∧ v.ownBlock ≠ some b := fun b off e => by
  subst e
  obtain ⟨cur, hc⟩ := hm.blk (g := b) rfl
  exact ⟨fun e => hm.apart h.blk (by decide) (by rw [← e]; rfl), h.own.apart hc (by decide)⟩
def spareM : Msg := ⟨0, 0, ⟨#[115, 112, 97, 114, 101]⟩, 0, 0, ⟨#[]⟩, ⟨#[]⟩⟩
def mk0 (n : Nat) : Obj := .cells (madeCells Msg.zero.cs.toArray ((n + 1) * 7)) 38
theorem run_mk (n : Nat) (hn : n ≤ 1759218604390) (W : World) : (Instr.makeSlice 27 (.int .i64 0) (.int .i64 (IntKind.i64.wrap ((n : Int) + 1)))).run Try.prog W = .ok (.slice (some ⟨W.heap.size, 0, none⟩) 0 (n + 1)) (W.alloc (mk0 n)) := by
  have e : IntKind.i64.wrap ((n : Int) + 1) = ((n + 1 : Nat) : Int) := by rw [IntWalk.i64_in _ (by omega)]; omega
  rw [e]
  obtain ⟨i0, hi, hz0, hz1, hz2⟩ := info_parts (show (Try.prog.info? 38).map (fun i => (i.zero, i.size, i.bytes)) = some (some (.agg Msg.zero.cs.toArray), 7, 80) by kernel_rfl)
  have := run_make (P := Try.prog) W 27 38 i0 (.agg Msg.zero.cs.toArray) Try.underlying27 hi hz0 .i64 .i64 0 ((n + 1 : Nat) : Int) (by omega) (by omega) (by rw [hz2]; omega) (by omega)
  rw [hz1] at this
  simpa [mk0, Value.cells] using this
theorem own_mk (W : World) (n B : Nat) (hn : n ≤ 1759218604390) (hB : B ≤ W.heap.size) : EM.Own (W.alloc (mk0 n)) B (.slice (some ⟨W.heap.size, 0, none⟩) 0 (n + 1)) [] :=
  World.ownsRow_made W _ (n + 1) hB (by unfold maxLen; omega) (by rw [size_madeCells]; rfl)
end Go.Proofs.Ytlnhpeghgabnkaa
