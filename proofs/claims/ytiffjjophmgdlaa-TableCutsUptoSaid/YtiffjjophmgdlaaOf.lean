/-
  Layer 11: lists of rows; Of.
-/
import Derived.Test.YtiffjjophmgdlaaTbl
namespace Go.Proofs.Ytiffjjophmgdlaa
open Go.RowKit Tb
attribute [local go_sem ↓] Go.wp_at_zero Go.wp_at_succ

def csR (r : Rw) : List Value := [.string r.1, .string r.2]
noncomputable def ER : Elt Try.prog Rw := Elt.of 22 25 2 32 csR (.agg #[.string ⟨#[]⟩, .string ⟨#[]⟩]) Try.underlying22 (by kernel_rfl) rfl (by decide) (by decide) (fun _ => rfl)
  (fun x u hu => by simp only [csR, List.mem_cons, List.not_mem_nil, or_false] at hu; rcases hu with rfl | rfl <;> rfl)
theorem rdR {w : World} {B : Nat} {ad : Option Addr} {l : List Rw} (h : ER.Rd w B ad l) (i : Nat) (r : Rw) (hi : l[i]? = some r) : ∃ b off, ad = some ⟨b, off, none⟩ ∧ b < B ∧ w.cell? ⟨b, off + i * 2, none⟩ = some (.string r.1) ∧ w.cell? ⟨b, off + i * 2 + 1, none⟩ = some (.string r.2) := by
  obtain ⟨hl, rfl⟩ := List.getElem?_eq_some_iff.1 hi
  obtain ⟨b, off, e, hb, hc⟩ := h (by omega)
  exact ⟨b, off, e, hb, hc i hl 0 (by decide), hc i hl 1 (by decide)⟩
theorem row_cells {w : World} {g : Nat} {t : TypeId} {x0 x1 : Value} (h : Blk w g t #[x0, x1]) : w.cell? ⟨g, 0, none⟩ = some x0 ∧ w.cell? ⟨g, 1, none⟩ = some x1 := ⟨h.at_ 0, h.at_ 1⟩
theorem bytes_iff (a b : ByteArray) : a.toList = b.toList ↔ a = b := by
  rw [ByteArray.toList_eq, ByteArray.toList_eq]
  exact ⟨bytes_eq, fun h => by rw [h]⟩
/-- A slice that reads as these rows, its parts by name. -/
structure RdS (w : World) (ad : Option Addr) (n cap : Nat) (l : List Rw) : Prop where
  len : l.length = n
  rd : ER.Rd w w.heap.size ad l
  nil : ad = none → cap = 0
  le : n ≤ cap
theorem RdS.later {w w' : World} {ad : Option Addr} {n cap : Nat} {l : List Rw} (h : RdS w ad n cap l) (hb : Below w.heap.size w w') : RdS w' ad n cap l := ⟨h.len, h.rd.later hb, h.nil, h.le⟩
theorem RdS.of_own {w : World} {B n cap : Nat} {ad : Option Addr} {l : List Rw} (h : ER.Own w B (.slice ad n cap) l) : RdS w ad n cap l := by
  refine ⟨h.len_eq.1, h.rd, fun e => ?_, h.len_eq.2⟩
  subst e
  rcases h.form with ⟨h1, _⟩ | ⟨g, cap', h1, _⟩
  · simp only [Value.slice.injEq] at h1; exact h1.2.2
  · simp at h1
theorem own_lit0 (w : World) (B : Nat) (hB : B ≤ w.heap.size) : ER.Own (w.alloc (.cells #[] 25)) B (.slice (some ⟨w.heap.size, 0, none⟩) 0 0) [] := Elt.Own.lit (E := ER) (n := 0) B hB rfl (by omega) #[] rfl
theorem sz_of {l : List Rw} (h : Sz l) (k : Nat) : Sz (trOf (l.take k)).ino := fun r hr => by
  rw [(of_ino _).1] at hr
  exact h r (List.mem_of_mem_take (of_mem _ r hr))
theorem of_take {l : List Rw} {k : Nat} {r : Rw} (h : l[k]? = some r) : trOf (l.take (k + 1)) = (trOf (l.take k)).put r.1 r.2 := by
  obtain ⟨h1, h2⟩ := List.getElem?_eq_some_iff.1 h
  rw [List.take_succ_eq_append_getElem h1, h2, ← trOf_snoc]
theorem sz_at {l : List Rw} (h : Sz l) {k : Nat} {r : Rw} (hk : l[k]? = some r) : r.1.size ≤ 140737488355328 ∧ r.2.size ≤ 140737488355328 := h r (List.mem_of_getElem? hk)
set_option maxRecDepth 100000 in
set_option maxHeartbeats 8000000 in
theorem of_any (ad : Option Addr) (n cap : Nat) (l : List Rw) (w : World) (hn : l.length = n) (hr : ER.Rd w w.heap.size ad l) (hlen : n ≤ 20001) (hs : Sz l) :
    Calls Try.prog 6 #[.slice ad n cap] w fun e w' => ∃ b, e = .returned (.pointer (some ⟨b, 0, none⟩)) ∧ w.heap.size ≤ b ∧ TblAt w' b (trOf l) ∧ Below w.heap.size w w' := by
  have HN := Lib.hid hn
  have HR := Lib.hid hr
  have HS := Lib.hid hs
  clear hn hr hs
  go_enter Try.func6, Try.ntmps6
  go_wp2_with fail
  refine (new_tbl w).mono ?_
  rintro e w1 ⟨rfl, ht, hb⟩
  have HT := Lib.hid ht
  have HB := Lib.hid hb
  clear ht hb
  go_wp2_with fail
  go_loopw [9] (fun i wr => ∃ k : Nat, k ≤ n ∧ i = .int .i64 k ∧ Hid (TblAt wr w.heap.size (trOf (l.take k))) ∧ Hid (Below w.heap.size w wr)) (fun i _ => n - (intOf i).toNat)
  case atStart => exact ⟨0, Nat.zero_le _, rfl, HT, HB⟩
  case round =>
    obtain ⟨k, hk, rfl, hT, hB⟩ := hrel
    clear HT HB
    by_cases hkn : k < n
    · have hkn2 : (k : Int) < (n : Int) := by omega
      obtain ⟨r, hr⟩ : ∃ r, Hid (l[k]? = some r) := ⟨l[k]'(by rw [HN.out]; exact hkn), Lib.hid (by simp)⟩
      obtain ⟨b, off, rfl, hblt, c0, c1⟩ := rdR (HR.out.below hB.out (Nat.le_refl _)) k r hr.out
      have hnx := Lib.hid (of_take hr.out)
      obtain ⟨rk, rv⟩ := r
      dsimp only at c0 c1
      have hcn : Hid ((trOf (l.take k)).cnt ≤ 20001) := Lib.hid (Nat.le_trans (of_cnt _) (by rw [List.length_take]; omega))
      clear hblt
      go_wp2_with fail
      have hB2 := Lib.hid (hB.out.alloc hB.out.size (.cells #[.string rk, .string rv] 25))
      have hT2 := Lib.hid (hT.out.below ((Below.refl wr.heap.size wr).alloc (Nat.le_refl _) (.cells #[.string rk, .string rv] 25)))
      refine (put_tbl w.heap.size (trOf (l.take k)) rk rv _ hT2.out (sz_of HS.out k) hcn.out (sz_at HS.out hr.out).1 (sz_at HS.out hr.out).2).mono ?_
      rintro e w3 ⟨rfl, hT3, hU3⟩
      have HT3 := Lib.hid hT3
      have HB3 := Lib.hid (hB2.out.trans (hU3.below w.heap.size hB2.out.size (fun k hk => by omega)))
      clear hT3 hU3
      go_wp2_with fail
      go_roundw
      case rel => exact ⟨k + 1, by omega, by go_num, by rw [hnx.out]; exact HT3, HB3⟩
      case measure => simp [intOf]; omega
    · have hkn2 : ¬ (k : Int) < (n : Int) := by omega
      obtain rfl : k = n := by omega
      rw [List.take_of_length_le (by rw [HN.out]; exact Nat.le_refl _)] at hT
      go_wp2_with fail
      go_ret
      exact ⟨_, rfl, Nat.le_refl _, hT.out, hB.out⟩
end Go.Proofs.Ytiffjjophmgdlaa
