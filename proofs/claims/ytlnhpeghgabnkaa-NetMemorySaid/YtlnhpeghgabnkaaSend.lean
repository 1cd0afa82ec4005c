/-
  Walks over layer 25: New, Send, Reply, Len.
-/
import Derived.Test.YtlnhpeghgabnkaaNet
import Derived.Deep.RegionHeldLaw
import Derived.Deep.LoopGhost
import Derived.Deep.DrawnRows
import Derived.WalkSpells
import Derived.WalkLawsBesides
import Derived.BigRegion
namespace Go.Proofs.Ytlnhpeghgabnkaa
open Go.RowKit
attribute [local go_sem ↓] Go.wp_at_zero Go.wp_at_succ

theorem new_any (w : World) : Calls Try.prog 8 #[] w fun e w' => e = .returned (.pointer (some ⟨w.heap.size, 0, none⟩)) ∧ w' = w.alloc (.cells #[.slice none 0 0] 57) := by
  go_enter Try.func8, Try.ntmps8
  go_wp2
  go_ret
  exact ⟨rfl, rfl⟩
theorem take_succ_map {α β : Type} (f : α → β) (l : List α) (k : Nat) (x : α) (h : l[k]? = some x) : (l.take (k + 1)).map f = (l.take k).map f ++ [f x] := by
  rw [List.take_add_one, h]
  simp
set_option maxRecDepth 100000 in
set_option maxHeartbeats 8000000 in
theorem send_any (B bn : Nat) (v : Value) (l : List Pk) (ad : Option Addr) (n cap : Nat) (ms : List Msg) (w : World) (h : NetAt w B bn v l) (hBw : B ≤ w.heap.size) (hn : ms.length = n) (hr : EM.Rd w w.heap.size ad ms) (hsep : ∀ b off, ad = some ⟨b, off, none⟩ → b ≠ bn ∧ v.ownBlock ≠ some b) (hlen : l.length + n ≤ 1759218604400) :
    Calls Try.prog 12 #[.pointer (some ⟨bn, 0, none⟩), .slice ad n cap] w fun e w' => e = .returned (.tuple #[]) ∧ NetGo B bn v (l ++ ms.map pkM) w w' := by
  have H := Lib.hid h
  have HR := Lib.hid hr
  have HS := Lib.hid hsep
  have HN := Lib.hid hn
  have HL := Lib.hid hlen
  have HB := Lib.hid hBw
  have hnb : n ≤ 1759218604400 := by omega
  clear h hr hsep hn hlen hBw
  go_enter Try.func12, Try.ntmps12
  go_wp2_with fail
  go_loopw [8] (fun i wr => ∃ k : Nat, k ≤ n ∧ i = .int .i64 k ∧ Hid (NetGo B bn v (l ++ (ms.take k).map pkM) w wr)) (fun i _ => n - (intOf i).toNat)
  case atStart => exact ⟨0, by omega, rfl, by rw [List.take_zero, List.map_nil, List.append_nil]; exact Lib.hid (NetGo.refl H.out)⟩
  case round =>
    obtain ⟨k, hk, rfl, HG⟩ := hrel
    by_cases hkn : k < n
    · have hkn2 : (k : Int) < (n : Int) := by omega
      obtain ⟨m, hm⟩ : ∃ m, Hid (ms[k]? = some m) := ⟨ms[k]'(by rw [HN.out]; exact hkn), Lib.hid (by simp)⟩
      obtain ⟨v1, hA, hU, hF⟩ := HG.out
      have HU := Lib.hid hU
      have HF := Lib.hid hF
      have HA := Lib.hid hA
      have hRw : EM.Rd wr w.heap.size ad ms := HR.out.same fun b off e hlt => hU.block b hlt fun h => h.elim (HS.out _ _ e).1 (HS.out _ _ e).2
      obtain ⟨b, off, rfl, hblt, c0, c1, c2, c3, c4, c5, c6⟩ := rdM hRw k m hm.out
      have hbw : Hid (b < wr.heap.size) := Lib.hid (Nat.lt_of_lt_of_le hblt hU.size)
      have hcn := hA.cell
      have hfn := hA.free
      have hnl := hA.lt
      have hnx := Lib.hid (take_succ_map pkM ms k m hm.out)
      have hlb : Hid ((l ++ (ms.take k).map pkM).length + 1 ≤ 1800000000000) := by
        have := HL.out
        refine Lib.hid ?_
        rw [List.length_append, List.length_map, List.length_take]
        omega
      obtain ⟨r', k', t', a', m', c', p'⟩ := m
      dsimp only at c0 c1 c2 c3 c4 c5 c6
      clear hU hF hA hRw hblt
      obtain ⟨W, hW⟩ : ∃ W, Hid (((wr.alloc (.cells #[.int .i64 r', .int .i64 k', .string t', .int .i64 a', .int .i64 m', .string c', .string p'] 38)).alloc (.cells #[.bool false, .int .i64 r', .int .i64 k', .string t', .int .i64 a', .int .i64 m', .string c', .string p', .int .i64 0, .int .i64 0, .string ⟨#[]⟩] 40)).drew = W) := ⟨_, Lib.hid rfl⟩
      have hAW : Hid (NetAt W B bn v1 (l ++ (ms.take k).map pkM)) := by rw [← hW.out]; exact Lib.hid ((HA.out.alloc _).alloc _).drew
      have hU7 : Hid (Upd (fun k => k = bn ∨ v.ownBlock = some k) w W) := by rw [← hW.out]; exact Lib.hid ((HU.out.alloc _).alloc _).drew
      have hb7 : Hid (Blk W wr.heap.size 38 #[.int .i64 r', .int .i64 k', .string t', .int .i64 a', .int .i64 m', .string c', .string p']) := by rw [← hW.out]; exact Lib.hid ((Blk.new _ _ _).alloc _).drew
      have hb11 : Hid (Blk W (wr.heap.size + 1) 40 #[.bool false, .int .i64 r', .int .i64 k', .string t', .int .i64 a', .int .i64 m', .string c', .string p', .int .i64 0, .int .i64 0, .string ⟨#[]⟩]) := by rw [← hW.out]; exact Lib.hid (by have := Blk.new (wr.alloc (.cells #[.int .i64 r', .int .i64 k', .string t', .int .i64 a', .int .i64 m', .string c', .string p'] 38)) #[.bool false, .int .i64 r', .int .i64 k', .string t', .int .i64 a', .int .i64 m', .string c', .string p', .int .i64 0, .int .i64 0, .string ⟨#[]⟩] 40; rw [World.size_alloc] at this; exact this.drew)
      have hBW : Hid (B ≤ W.heap.size) := Lib.hid (Nat.le_trans HB.out hU7.out.size)
      go_wp2_with fail
      go_region_law ((rw [hW.out]; refine EP.step_app rfl _ _ (by rfl) B v1 _ [pkM ⟨r', k', t', a', m', c', p'⟩] W (by rfl) hAW.out.own (wr.heap.size + 1) 1 (by rfl) (by rfl) _ hb11.out (by rfl) hlb.out hBW.out ?_; intro ad2 n2 c2 w2 h2; have hk7 := NetAt.kept h2.out hb7.out hAW.out (by decide); obtain ⟨d0, d1, d2, d3, d4, d5, d6⟩ := msg_cells hk7; have hkn := NetAt.kept h2.out hAW.out.blk hAW.out (by decide); have hkc := hkn.at_ 0; have hkf := hkn.free 0))
      all_goals
        go_wp2_with fail
        go_roundw
        case rel =>
          refine ⟨k + 1, by omega, by go_num, ?_⟩
          rw [hnx.out, ← List.append_assoc]
          exact Lib.hid (NetGo.trans hU7.out HF.out (hAW.out.stored h2.out))
        case measure => simp [intOf]; omega
    · have hkn2 : ¬ (k : Int) < (n : Int) := by omega
      obtain rfl : k = n := by omega
      rw [List.take_of_length_le (by rw [HN.out]; exact Nat.le_refl _)] at HG
      go_wp2_with fail
      go_end0
      exact ⟨rfl, HG.out⟩
end Go.Proofs.Ytlnhpeghgabnkaa
