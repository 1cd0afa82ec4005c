/-
  Layer 25: count.
-/
import Derived.Test.YtlnhpeghgabnkaaMem
namespace Go.Proofs.Ytlnhpeghgabnkaa
open Go.RowKit
attribute [local go_sem ↓] Go.wp_at_zero Go.wp_at_succ

deriving instance DecidableEq for Msg
deriving instance DecidableEq for Ans
deriving instance DecidableEq for Pk
theorem bytes_iff (a b : ByteArray) : a.toList = b.toList ↔ a = b := by
  rw [ByteArray.toList_eq, ByteArray.toList_eq]
  constructor
  · intro h
    cases a; cases b
    simpa [Array.toList_inj] using h
  · rintro rfl; rfl
theorem run_eql_pk (p q : Pk) (W : World) : (binOp .eql 40 (.agg #[.bool p.b, .int .i64 p.m.r, .int .i64 p.m.k, .string p.m.t, .int .i64 p.m.a, .int .i64 p.m.m, .string p.m.c, .string p.m.p, .int .i64 p.a.r, .int .i64 p.a.k, .string p.a.t])
    (.agg #[.bool q.b, .int .i64 q.m.r, .int .i64 q.m.k, .string q.m.t, .int .i64 q.m.a, .int .i64 q.m.m, .string q.m.c, .string q.m.p, .int .i64 q.a.r, .int .i64 q.a.k, .string q.a.t])).run Try.prog W = .ok (.bool (decide (p = q))) W := by
  obtain ⟨pb, ⟨mr, mk, mt, ma, mm, mc, mp⟩, ⟨ar, ak, at'⟩⟩ := p
  obtain ⟨qb, ⟨mr', mk', mt', ma', mm', mc', mp'⟩, ⟨ar', ak', at''⟩⟩ := q
  simp [go_sem, bytes_iff]
  repeat' split
  all_goals simp_all
theorem run_neq_pk (p q : Pk) (W : World) : (binOp .neq 40 (.agg #[.bool p.b, .int .i64 p.m.r, .int .i64 p.m.k, .string p.m.t, .int .i64 p.m.a, .int .i64 p.m.m, .string p.m.c, .string p.m.p, .int .i64 p.a.r, .int .i64 p.a.k, .string p.a.t])
    (.agg #[.bool q.b, .int .i64 q.m.r, .int .i64 q.m.k, .string q.m.t, .int .i64 q.m.a, .int .i64 q.m.m, .string q.m.c, .string q.m.p, .int .i64 q.a.r, .int .i64 q.a.k, .string q.a.t])).run Try.prog W = .ok (.bool (!decide (p = q))) W := by
  obtain ⟨pb, ⟨mr, mk, mt, ma, mm, mc, mp⟩, ⟨ar, ak, at'⟩⟩ := p
  obtain ⟨qb, ⟨mr', mk', mt', ma', mm', mc', mp'⟩, ⟨ar', ak', at''⟩⟩ := q
  simp [go_sem, bytes_iff]
  repeat' split
  all_goals simp_all
set_option maxRecDepth 100000 in
set_option maxHeartbeats 8000000 in
theorem count_any (ad : Option Addr) (n cap : Nat) (l : List Pk) (p : Pk) (w : World) (hn : l.length = n) (hr : EP.Rd w w.heap.size ad l) (hlen : n ≤ 1073741824) :
    Calls Try.prog 17 #[.slice ad n cap, .agg #[.bool p.b, .int .i64 p.m.r, .int .i64 p.m.k, .string p.m.t, .int .i64 p.m.a, .int .i64 p.m.m, .string p.m.c, .string p.m.p, .int .i64 p.a.r, .int .i64 p.a.k, .string p.a.t]] w fun e w' => e = .returned (.int .i64 (l.countP (fun q => q = p) : Nat)) ∧ Below w.heap.size w w' := by
  have HN := Lib.hid hn
  have HR := Lib.hid hr
  have hbp := Lib.hid (Blk.new w #[.bool p.b, .int .i64 p.m.r, .int .i64 p.m.k, .string p.m.t, .int .i64 p.m.a, .int .i64 p.m.m, .string p.m.c, .string p.m.p, .int .i64 p.a.r, .int .i64 p.a.k, .string p.a.t] 40)
  have hb0 := Lib.hid ((Below.refl w.heap.size w).alloc (Nat.le_refl _) (.cells #[.bool p.b, .int .i64 p.m.r, .int .i64 p.m.k, .string p.m.t, .int .i64 p.m.a, .int .i64 p.m.m, .string p.m.c, .string p.m.p, .int .i64 p.a.r, .int .i64 p.a.k, .string p.a.t] 40))
  clear hn hr
  go_enter Try.func17, Try.ntmps17
  go_wp2_with fail
  go_loopw [5, 10] (fun c i wr => ∃ k : Nat, k ≤ n ∧ i = .int .i64 k ∧ c = .int .i64 ((l.take k).countP (fun q => q = p) : Nat) ∧ Hid (Blk wr w.heap.size 40 #[.bool p.b, .int .i64 p.m.r, .int .i64 p.m.k, .string p.m.t, .int .i64 p.m.a, .int .i64 p.m.m, .string p.m.c, .string p.m.p, .int .i64 p.a.r, .int .i64 p.a.k, .string p.a.t] ∧ Below w.heap.size w wr)) (fun _ i _ => n - (intOf i).toNat)
  case atStart => exact ⟨0, Nat.zero_le _, rfl, by simp, Lib.hid ⟨hbp.out, hb0.out⟩⟩
  case round =>
    obtain ⟨k, hk, rfl, rfl, hI⟩ := hrel
    by_cases hkm : k < n
    · have hkm2 : (k : Int) < (n : Int) := by omega
      obtain ⟨q, hq⟩ : ∃ q, Hid (l[k]? = some q) := ⟨l[k]'(by rw [HN.out]; exact hkm), Lib.hid (by simp)⟩
      obtain ⟨b, off, rfl, hblt, c0, c1, c2, c3, c4, c5, c6, c7, c8, c9, c10⟩ := rdP (HR.out.below hI.out.2 (Nat.le_refl _)) k q hq.out
      have hI2 := Lib.hid (hI.out.2.alloc hI.out.2.size (.cells #[.bool q.b, .int .i64 q.m.r, .int .i64 q.m.k, .string q.m.t, .int .i64 q.m.a, .int .i64 q.m.m, .string q.m.c, .string q.m.p, .int .i64 q.a.r, .int .i64 q.a.k, .string q.a.t] 40))
      have hI1 := Lib.hid (hI.out.1.alloc (.cells #[.bool q.b, .int .i64 q.m.r, .int .i64 q.m.k, .string q.m.t, .int .i64 q.m.a, .int .i64 q.m.m, .string q.m.c, .string q.m.p, .int .i64 q.a.r, .int .i64 q.a.k, .string q.a.t] 40))
      obtain ⟨e0, e1, e2, e3, e4, e5, e6, e7, e8, e9, e10⟩ := pk_cells hI1.out
      have hrun := run_eql_pk q p
      have hct : (l.take (k + 1)).countP (fun q => q = p) = (l.take k).countP (fun q => q = p) + if q = p then 1 else 0 := by
        have h1 := (List.getElem?_eq_some_iff.1 hq.out)
        obtain ⟨h2, h3⟩ := h1
        rw [List.take_succ_eq_append_getElem h2, List.countP_append, h3]
        simp [List.countP_cons]
      have HCT := Lib.hid hct
      have hcb : (l.take k).countP (fun q => q = p) ≤ 1073741824 := Nat.le_trans List.countP_le_length (by rw [List.length_take]; omega)
      clear hct
      by_cases hqp : q = p
      · rw [if_pos hqp] at HCT
        rw [decide_eq_true hqp] at hrun
        have HQ := Lib.hid hqp
        clear hqp
        go_wp2_with fail
        go_roundw
        case rel => exact ⟨k + 1, by omega, by go_num, by rw [HCT.out]; go_num, Lib.hid ⟨hI1.out, hI2.out⟩⟩
        case measure => simp [intOf]; omega
      · rw [if_neg hqp] at HCT
        rw [decide_eq_false hqp] at hrun
        have HQ := Lib.hid hqp
        clear hqp
        go_wp2_with fail
        go_roundw
        case rel => exact ⟨k + 1, by omega, by go_num, by rw [HCT.out]; go_num, Lib.hid ⟨hI1.out, hI2.out⟩⟩
        case measure => simp [intOf]; omega
    · have hkm2 : ¬ (k : Int) < (n : Int) := by omega
      obtain rfl : k = n := by omega
      go_wp2_with fail
      go_ret
      rw [List.take_of_length_le (by rw [HN.out]; exact Nat.le_refl _)]
      exact ⟨rfl, hI.out.2⟩
end Go.Proofs.Ytlnhpeghgabnkaa
