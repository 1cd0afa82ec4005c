/-
  Layer 25: fixed: the calls whose answers the document fixes.
-/
import Derived.Test.YtlnhpeghgabnkaaTold
import Derived.Deep.RegionWith
import Derived.Deep.DeepCutAuto
namespace Go.Proofs.Ytlnhpeghgabnkaa
open Go.RowKit
attribute [local go_sem ↓] Go.wp_at_zero Go.wp_at_succ

theorem NetAt.next {w0 w w' : World} {B bn : Nat} {v : Value} {l l' : List Pk} (h : NetAt w B bn v l) (hg : NetGo B bn v l' w w') (hB : Below B w0 w) (hB0 : B ≤ w0.heap.size) : ∃ v', NetAt w' B bn v' l' ∧ Below B w0 w' := by
  obtain ⟨v', h1, h2, _⟩ := hg
  refine ⟨v', h1, hB.trans (h2.below B (Nat.le_trans hB0 hB.size) fun k hk => ?_)⟩
  rcases hk with rfl | hk
  · exact h.base
  · exact (h.own.lt k hk).1
theorem undrew {B : Nat} {w w' : World} (h : Below B w.drew w') : Below B w w' := ⟨h.os, h.tape, h.output, h.size, h.block⟩
def nm (s : ByteArray) : Msg := ⟨0, 1, s, 0, 0, ⟨#[]⟩, ⟨#[]⟩⟩
theorem named_any (s : ByteArray) (w : World) : Calls Try.prog 21 #[.string s] w fun e w' => e = .returned (.agg #[.int .i64 0, .int .i64 1, .string s, .int .i64 0, .int .i64 0, .string ⟨#[]⟩, .string ⟨#[]⟩]) ∧ Below w.heap.size w w' := by
  go_enter Try.func21, Try.ntmps21
  go_wp2
  refine bodyPost_ret (v := .agg #[.int .i64 0, .int .i64 1, .string s, .int .i64 0, .int .i64 0, .string ⟨#[]⟩, .string ⟨#[]⟩]) (by simp [results, Try.f21, go_sem]) rfl ⟨rfl, (Below.refl _ _).alloc (Nat.le_refl _) _⟩
theorem net_new (w : World) (B : Nat) (hB : B ≤ w.heap.size) : NetAt (w.alloc (.cells #[.slice none 0 0] 57)) B w.heap.size (.slice none 0 0) [] := ⟨hB, Blk.new _ _ _, Elt.Own.nil _ _ _⟩
def sa : ByteArray := ⟨#[97]⟩
def sb : ByteArray := ⟨#[98]⟩
def sx : ByteArray := ⟨#[120]⟩
set_option maxRecDepth 100000 in
set_option maxHeartbeats 8000000 in
theorem fixed_any (w : World) : Calls Try.prog 7 #[] w fun e w' => e = .returned (.bool true) ∧ Below w.heap.size w w' := by
  go_enter Try.func7, Try.ntmps7
  go_wp2_with fail
  refine (new_any w).mono ?_
  rintro e w1 ⟨rfl, rfl⟩
  have hA0 := Lib.hid (net_new w w.heap.size (Nat.le_refl _))
  have hB0 := Lib.hid ((Below.refl w.heap.size w).alloc (Nat.le_refl _) (.cells #[.slice none 0 0] 57))
  obtain ⟨w1, hw1⟩ : ∃ w1, Hid (w.alloc (.cells #[.slice none 0 0] 57) = w1) := ⟨_, Lib.hid rfl⟩
  rw [hw1.out] at hA0 hB0 ⊢
  go_wp2_with fail
  refine (named_any ⟨#[97]⟩ w1).mono ?_
  rintro e w2 ⟨rfl, hb⟩
  have hA2 := Lib.hid (hA0.out.below hb)
  have hB2 := Lib.hid (hB0.out.trans (hb.mono hB0.out.size))
  clear hb
  go_wp2_with fail
  refine (named_any ⟨#[98]⟩ w2).mono ?_
  rintro e w3 ⟨rfl, hb⟩
  have hA3 := Lib.hid (hA2.out.below hb)
  have hB3 := Lib.hid (hB2.out.trans (hb.mono hB2.out.size))
  clear hb
  go_wp2_with fail
  have hA4 := Lib.hid (hA3.out.alloc (.cells #[.int .i64 0, .int .i64 1, .string ⟨#[97]⟩, .int .i64 0, .int .i64 0, .string ⟨#[]⟩, .string ⟨#[]⟩, .int .i64 0, .int .i64 1, .string ⟨#[98]⟩, .int .i64 0, .int .i64 0, .string ⟨#[]⟩, .string ⟨#[]⟩] 38))
  have hB4 := Lib.hid (hB3.out.alloc hB3.out.size (.cells #[.int .i64 0, .int .i64 1, .string ⟨#[97]⟩, .int .i64 0, .int .i64 0, .string ⟨#[]⟩, .string ⟨#[]⟩, .int .i64 0, .int .i64 1, .string ⟨#[98]⟩, .int .i64 0, .int .i64 0, .string ⟨#[]⟩, .string ⟨#[]⟩] 38))
  have hM : Hid (EM.Own (w3.alloc (.cells #[.int .i64 0, .int .i64 1, .string ⟨#[97]⟩, .int .i64 0, .int .i64 0, .string ⟨#[]⟩, .string ⟨#[]⟩, .int .i64 0, .int .i64 1, .string ⟨#[98]⟩, .int .i64 0, .int .i64 0, .string ⟨#[]⟩, .string ⟨#[]⟩] 38)) 0 (.slice (some ⟨w3.heap.size, 0, none⟩) 2 2) [nm ⟨#[97]⟩, nm ⟨#[98]⟩]) := Lib.hid (Elt.Own.lit (E := EM) (n := 2) 0 (Nat.zero_le _) rfl (by omega) _ rfl)
  have hS : Hid (∀ b off, (some (⟨w3.heap.size, 0, none⟩ : Addr)) = some ⟨b, off, none⟩ → b ≠ w.heap.size ∧ (Value.slice none 0 0).ownBlock ≠ some b) := Lib.hid fun b off e => ⟨fun e2 => by injection e with e; injection e with e1; have := hA3.out.lt; omega, by simp [Value.ownBlock]⟩
  refine (send_any w.heap.size w.heap.size _ [] _ 2 2 _ _ hA4.out hB4.out.size rfl hM.out.rd hS.out (by simp)).mono ?_
  rintro e w5 ⟨rfl, hg⟩
  obtain ⟨v5, hA5, hB5⟩ := hA4.out.next hg hB4.out (Nat.le_refl _)
  have hA5 := Lib.hid hA5
  have hB5 := Lib.hid hB5
  clear hg
  go_wp2_with fail
  refine (reply_any w.heap.size w.heap.size _ _ ⟨0, 0, ⟨#[120]⟩⟩ _ hA5.out hB5.out.size (by simp)).mono ?_
  rintro e w6 ⟨rfl, hg⟩
  obtain ⟨v6, hA6, hB6⟩ := hA5.out.next hg hB5.out (Nat.le_refl _)
  have hA6 := Lib.hid hA6
  have hB6 := Lib.hid hB6
  clear hg
  go_wp2_with fail
  refine (len_any _ _ _ _ _ hA6.out).mono ?_
  rintro e w7 ⟨rfl, rfl⟩
  dsimp only [List.nil_append, List.map_cons, List.map_nil, List.cons_append, List.length_cons, List.length_nil]
  go_wp2_with fail
  refine (double_yes w.heap.size w.heap.size _ _ (pkM (nm ⟨#[97]⟩)) 0 rfl _ hA6.out hB6.out.size (by simp)).mono ?_
  rintro e w7 ⟨rfl, hg⟩
  obtain ⟨v7, hA7, hB7⟩ := hA6.out.next hg hB6.out (Nat.le_refl _)
  have hA7 := Lib.hid hA7
  have hB7 := Lib.hid hB7
  clear hg
  go_wp2_with fail
  refine (take_yes w.heap.size w.heap.size _ _ (pkM (nm ⟨#[98]⟩)) 1 rfl _ hA7.out (by simp)).mono ?_
  rintro e w8 ⟨rfl, hg⟩
  obtain ⟨v8, hA8, hB8⟩ := hA7.out.next hg hB7.out (Nat.le_refl _)
  have hA8 := Lib.hid hA8
  have hB8 := Lib.hid hB8
  clear hg
  dsimp only [pkM, nm, Pk.cs, Ans.zero]
  go_wp2_with fail
  obtain ⟨W8, hW8⟩ : ∃ W, Hid (w8.alloc (.cells #[.bool false, .int .i64 0, .int .i64 1, .string ⟨#[98]⟩, .int .i64 0, .int .i64 0, .string ⟨#[]⟩, .string ⟨#[]⟩, .int .i64 0, .int .i64 0, .string ⟨#[]⟩] 40) = W) := ⟨_, Lib.hid rfl⟩
  have hA9 : Hid (NetAt W8 w.heap.size w.heap.size v8 [pkM (nm ⟨#[97]⟩), pkA ⟨0, 0, ⟨#[120]⟩⟩, pkM (nm ⟨#[97]⟩)]) := by rw [← hW8.out]; exact Lib.hid (hA8.out.alloc _)
  have hB9 : Hid (Below w.heap.size w W8) := by rw [← hW8.out]; exact Lib.hid (hB8.out.alloc hB8.out.size _)
  have hP : Hid (Blk W8 w8.heap.size 40 #[.bool false, .int .i64 0, .int .i64 1, .string ⟨#[98]⟩, .int .i64 0, .int .i64 0, .string ⟨#[]⟩, .string ⟨#[]⟩, .int .i64 0, .int .i64 0, .string ⟨#[]⟩]) := by rw [← hW8.out]; exact Lib.hid (Blk.new _ _ _)
  have hlt8 := hP.out.lt
  obtain ⟨d0, d1, d2, d3, d4, d5, d6, d7, d8, d9, d10⟩ := pk_cells hP.out
  rw [hW8.out]
  go_cut [37] (fun v wx => v = .bool false ∧ Hid (NetAt wx w.heap.size w.heap.size v8 [pkM (nm ⟨#[97]⟩), pkA ⟨0, 0, ⟨#[120]⟩⟩, pkM (nm ⟨#[97]⟩)]) ∧ Hid (Below w.heap.size w wx))
  case first =>
    go_region_with (go_at_call 21; ((with_reducible refine (named_any _ _).mono ?_); rintro e w9 ⟨rfl, hb⟩; have hP1 := hP.out.below (undrew hb) hlt8; obtain ⟨e0, e1, e2, e3, e4, e5, e6, e7, e8, e9, e10⟩ := pk_cells hP1))
    all_goals
      go_wp2_with fail
      go_meet
      exact ⟨rfl, Lib.hid (hA9.out.below (undrew hb)), Lib.hid (hB9.out.trans ((undrew hb).mono hB9.out.size))⟩
  case rest =>
    obtain ⟨rfl, hA10, hB10⟩ := hcut
    clear d0 d1 d2 d3 d4 d5 d6 d7 d8 d9 d10 hlt8
    go_wp2_with fail
    refine (take_no w.heap.size w.heap.size v8 _ 3 rfl (-1) (by decide) wc hA10.out).mono ?_
    rintro e w11 ⟨rfl, hb⟩
    have hA11 := Lib.hid (hA10.out.below hb)
    have hB11 := Lib.hid (hB10.out.trans (hb.mono hB10.out.size))
    clear hb
    simp only [Pk.zero, Msg.zero, Ans.zero, Pk.cs]
    go_wp2_with fail
    refine (lose_no w.heap.size w.heap.size v8 _ 3 rfl 5 (by decide) _ (hA11.out.alloc _)).mono ?_
    rintro e w12 ⟨rfl, hb⟩
    have hA12 := Lib.hid ((hA11.out.alloc _).below hb)
    have hB12 := Lib.hid ((hB11.out.alloc hB11.out.size _).trans (hb.mono (by have := hB11.out.size; simp; omega)))
    clear hb
    go_wp2_with fail
    refine (named_any ⟨#[97]⟩ w12).mono ?_
    rintro e w13 ⟨rfl, hb⟩
    have hA13 := Lib.hid (hA12.out.below hb)
    have hB13 := Lib.hid (hB12.out.trans (hb.mono hB12.out.size))
    clear hb
    go_wp2_with fail
    refine (named_any ⟨#[97]⟩ w13).mono ?_
    rintro e w14 ⟨rfl, hb⟩
    have hA14 := Lib.hid (hA13.out.below hb)
    have hB14 := Lib.hid (hB13.out.trans (hb.mono hB13.out.size))
    clear hb
    have hL : Hid (EP.Own (w14.alloc (.cells #[.bool false, .int .i64 0, .int .i64 1, .string ⟨#[97]⟩, .int .i64 0, .int .i64 0, .string ⟨#[]⟩, .string ⟨#[]⟩, .int .i64 0, .int .i64 0, .string ⟨#[]⟩, .bool true, .int .i64 0, .int .i64 0, .string ⟨#[]⟩, .int .i64 0, .int .i64 0, .string ⟨#[]⟩, .string ⟨#[]⟩, .int .i64 0, .int .i64 0, .string ⟨#[120]⟩, .bool false, .int .i64 0, .int .i64 1, .string ⟨#[97]⟩, .int .i64 0, .int .i64 0, .string ⟨#[]⟩, .string ⟨#[]⟩, .int .i64 0, .int .i64 0, .string ⟨#[]⟩] 40)) 0 (.slice (some ⟨w14.heap.size, 0, none⟩) 3 3) [pkM (nm ⟨#[97]⟩), pkA ⟨0, 0, ⟨#[120]⟩⟩, pkM (nm ⟨#[97]⟩)]) := Lib.hid (Elt.Own.lit (E := EP) (n := 3) 0 (Nat.zero_le _) rfl (by omega) _ rfl)
    go_wp2_with fail
    refine (told_any w.heap.size w.heap.size v8 [pkM (nm ⟨#[97]⟩), pkA ⟨0, 0, ⟨#[120]⟩⟩, pkM (nm ⟨#[97]⟩)] (some ⟨w14.heap.size, 0, none⟩) 3 3 _ (hA14.out.alloc _) rfl hL.out.rd (by simp)).mono ?_
    rintro e w15 ⟨rfl, hb⟩
    have hB15 := Lib.hid ((hB14.out.alloc hB14.out.size _).trans (hb.mono (by have := hB14.out.size; simp; omega)))
    clear hb
    go_wp2_with fail
    go_ret
    exact ⟨rfl, hB15.out⟩
end Go.Proofs.Ytlnhpeghgabnkaa
