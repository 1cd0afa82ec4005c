/-
  Layer 11: a tree of nodes in memory; tall, count, join, cmp.Compare.
-/
import Derived.Test.YtiffjjophmgdlaaRow
import Derived.Test.YtiffjjophmgdlaaPlain
import Derived.Deep.QuietTactic
import Derived.BigQuiet
import Derived.LoopTactic
import Derived.Deep.LoopGhost
import Derived.Deep.Cut
import Derived.Laws.IdiomStrings
import Derived.WalkSpells
import Derived.WalkLawsBesides
import Derived.IntWalk
namespace Go.Proofs.Ytiffjjophmgdlaa
open Go.RowKit Tb

theorem quiet_of_left {P : Program} {f : FuncId} {args : Array Value} {w : World} {n : Nat} {v : Value}
    (h : Calls P f args (w.drewN n) fun e w' => e = .returned v ∧ w.drewN n = w') : Calls P f args (w.drewN n) fun e w'' => e = .returned v ∧ ∃ m, w'' = w.drewN m :=
  h.mono fun _ _ ⟨he, hm⟩ => ⟨he, n, hm.symm⟩
theorem toList_lt (a b : ByteArray) : Op.bytesLess a.toList b.toList = lt a b := by rw [ByteArray.toList_eq, ByteArray.toList_eq]; rfl
theorem toList_ne {a b : ByteArray} (h : a ≠ b) : (a.toList == b.toList) = false := by
  rw [ByteArray.toList_eq, ByteArray.toList_eq]
  exact beq_eq_false_iff_ne.2 fun e => h (bytes_eq e)
theorem isnan_any (x : ByteArray) (W : World) : Calls Try.prog 39 #[.string x] W fun e w' => e = .returned (.bool false) ∧ W = w' := by
  go_enter Try.func39, Try.ntmps39
  go_wp2
  go_ret
  exact ⟨rfl, rfl⟩
theorem cmp_lt (a b : ByteArray) (h : lt a b = true) (w : World) : Calls Try.prog 35 #[.string a, .string b] w fun e w' => e = .returned (.int .i64 (-1)) ∧ w = w' := by
  have HN := hide fun (x : ByteArray) (W : World) => isnan_any x W
  have f1 : Op.bytesLess a.toList b.toList = true := by rw [toList_lt]; exact h
  clear h
  go_enter Try.func35, Try.ntmps35
  go_wp2_with (go_at_call 39; refine (unhide HN _ _).mono ?_; rintro e w' ⟨rfl, rfl⟩)
  go_ret
  exact ⟨rfl, rfl⟩
theorem cmp_gt (a b : ByteArray) (h : lt b a = true) (w : World) : Calls Try.prog 35 #[.string a, .string b] w fun e w' => e = .returned (.int .i64 1) ∧ w = w' := by
  have HN := hide fun (x : ByteArray) (W : World) => isnan_any x W
  have f1 : Op.bytesLess a.toList b.toList = false := by rw [toList_lt]; exact lt_asymm h
  have f2 : (a.toList == b.toList) = false := toList_ne (lt_ne h).symm
  clear h
  go_enter Try.func35, Try.ntmps35
  go_wp2_with (go_at_call 39; refine (unhide HN _ _).mono ?_; rintro e w' ⟨rfl, rfl⟩)
  go_ret
  exact ⟨rfl, rfl⟩
theorem cmp_eq (a : ByteArray) (w : World) : Calls Try.prog 35 #[.string a, .string a] w fun e w' => e = .returned (.int .i64 0) ∧ w = w' := by
  have HN := hide fun (x : ByteArray) (W : World) => isnan_any x W
  have f1 : Op.bytesLess a.toList a.toList = false := by rw [toList_lt]; exact lt_irrefl a
  go_enter Try.func35, Try.ntmps35
  go_wp2_with (go_at_call 39; refine (unhide HN _ _).mono ?_; rintro e w' ⟨rfl, rfl⟩)
  go_ret
  exact ⟨rfl, rfl⟩
/-- A tree in memory. -/
def At (w : World) : Tr → Option Addr → Prop
  | .nil, p => p = none
  | .node k v l r, p => ∃ g pl pr, p = some ⟨g, 0, none⟩ ∧ Blk w g 58 #[.string k, .string v, .pointer pl, .pointer pr, .int .i64 ((Tr.node k v l r).tall : Int), .int .i64 ((Tr.node k v l r).cnt : Int)] ∧ At w l pl ∧ At w r pr
theorem At_below {w w' : World} (hb : Below w.heap.size w w') : ∀ {t : Tr} {p : Option Addr}, At w t p → At w' t p
  | .nil, _, h => h
  | .node _ _ _ _, _, ⟨g, pl, pr, e, h1, h2, h3⟩ => ⟨g, pl, pr, e, h1.below hb h1.lt, At_below hb h2, At_below hb h3⟩
theorem nd_cells {w : World} {g : Nat} {t : TypeId} {x0 x1 x2 x3 x4 x5 : Value} (h : Blk w g t #[x0, x1, x2, x3, x4, x5]) : w.cell? ⟨g, 0, none⟩ = some x0 ∧ w.cell? ⟨g, 1, none⟩ = some x1 ∧ w.cell? ⟨g, 2, none⟩ = some x2 ∧ w.cell? ⟨g, 3, none⟩ = some x3 ∧ w.cell? ⟨g, 4, none⟩ = some x4 ∧ w.cell? ⟨g, 5, none⟩ = some x5 :=
  ⟨h.at_ 0, h.at_ 1, h.at_ 2, h.at_ 3, h.at_ 4, h.at_ 5⟩
theorem tall_any (t : Tr) (p : Option Addr) (w : World) (h : At w t p) : Calls Try.prog 40 #[.pointer p] w fun e w' => e = .returned (.int .i64 (t.tall : Int)) ∧ w = w' := by
  cases t with
  | nil =>
    obtain rfl := h
    go_enter Try.func40, Try.ntmps40
    go_wp2
    go_ret
    exact ⟨rfl, rfl⟩
  | node k v l r =>
    obtain ⟨g, pl, pr, rfl, hb, _, _⟩ := h
    obtain ⟨c0, c1, c2, c3, c4, c5⟩ := nd_cells hb
    generalize (Tr.node k v l r).tall = q at c4 ⊢
    go_enter Try.func40, Try.ntmps40
    go_wp2
    go_ret
    exact ⟨rfl, rfl⟩
theorem count_any (t : Tr) (p : Option Addr) (w : World) (h : At w t p) : Calls Try.prog 21 #[.pointer p] w fun e w' => e = .returned (.int .i64 (t.cnt : Int)) ∧ w = w' := by
  cases t with
  | nil =>
    obtain rfl := h
    go_enter Try.func21, Try.ntmps21
    go_wp2
    go_ret
    exact ⟨rfl, rfl⟩
  | node k v l r =>
    obtain ⟨g, pl, pr, rfl, hb, _, _⟩ := h
    obtain ⟨c0, c1, c2, c3, c4, c5⟩ := nd_cells hb
    generalize (Tr.node k v l r).cnt = q at c5 ⊢
    go_enter Try.func21, Try.ntmps21
    go_wp2
    go_ret
    exact ⟨rfl, rfl⟩
/-- What makes a node answers. -/
def Made (w : World) (t : Tr) (e : Ending) (w' : World) : Prop := ∃ p, e = .returned (.pointer p) ∧ At w' t p ∧ Below w.heap.size w w'
set_option maxHeartbeats 2000000 in
theorem join_any (l r : Tr) (k v : ByteArray) (pl pr : Option Addr) (w : World) (hl : At w l pl) (hr : At w r pr) (hc : l.cnt + r.cnt + 1 ≤ 1099511627776) :
    Calls Try.prog 37 #[.pointer pl, .string k, .string v, .pointer pr] w (Made w (.node k v l r)) := by
  have HL := Lib.hid hl
  have HR := Lib.hid hr
  have hx1 := tall_le l
  have hx2 := tall_le r
  obtain ⟨a, ha⟩ : ∃ a, Hid (l.tall = a) := ⟨_, Lib.hid rfl⟩
  obtain ⟨b, hb⟩ : ∃ b, Hid (r.tall = b) := ⟨_, Lib.hid rfl⟩
  obtain ⟨c, hc'⟩ : ∃ c, Hid (l.cnt = c) := ⟨_, Lib.hid rfl⟩
  obtain ⟨d, hd⟩ : ∃ d, Hid (r.cnt = d) := ⟨_, Lib.hid rfl⟩
  have hn1 : Hid ((Tr.node k v l r).tall = max a b + 1) := Lib.hid (by rw [← ha.out, ← hb.out]; rfl)
  have hn2 : Hid ((Tr.node k v l r).cnt = c + d + 1) := Lib.hid (by rw [← hc'.out, ← hd.out]; rfl)
  rw [ha.out, hc'.out] at hx1
  rw [hb.out, hd.out] at hx2
  rw [hc'.out, hd.out] at hc
  clear hl hr
  by_cases hab : a < b
  · have hm : Hid (max a b = b) := Lib.hid (by omega)
    have hab2 : (a : Int) < (b : Int) := by omega
    go_enter Try.func37, Try.ntmps37
    go_wp2_with fail
    refine (tall_any l pl w HL.out).mono ?_
    rintro e w' ⟨rfl, rfl⟩
    rw [ha.out]
    go_wp2_with fail
    refine (tall_any r pr w HR.out).mono ?_
    rintro e w' ⟨rfl, rfl⟩
    rw [hb.out]
    go_wp2_with fail
    all_goals
      refine (count_any l pl w HL.out).mono ?_
      rintro e w' ⟨rfl, rfl⟩
      rw [hc'.out]
      go_wp2_with fail
      refine (count_any r pr w HR.out).mono ?_
      rintro e w' ⟨rfl, rfl⟩
      rw [hd.out]
      go_wp2_with fail
      go_ret
      refine ⟨_, rfl, ⟨w.heap.size, pl, pr, rfl, ?_, At_below ((Below.refl _ _).alloc (Nat.le_refl _) _) HL.out, At_below ((Below.refl _ _).alloc (Nat.le_refl _) _) HR.out⟩, (Below.refl _ _).alloc (Nat.le_refl _) _⟩
      rw [hn1.out, hn2.out, hm.out]
      exact Blk.new _ _ _
  · have hm : Hid (max a b = a) := Lib.hid (by omega)
    have hab2 : ¬ (a : Int) < (b : Int) := by omega
    go_enter Try.func37, Try.ntmps37
    go_wp2_with fail
    refine (tall_any l pl w HL.out).mono ?_
    rintro e w' ⟨rfl, rfl⟩
    rw [ha.out]
    go_wp2_with fail
    refine (tall_any r pr w HR.out).mono ?_
    rintro e w' ⟨rfl, rfl⟩
    rw [hb.out]
    go_wp2_with fail
    all_goals
      refine (count_any l pl w HL.out).mono ?_
      rintro e w' ⟨rfl, rfl⟩
      rw [hc'.out]
      go_wp2_with fail
      refine (count_any r pr w HR.out).mono ?_
      rintro e w' ⟨rfl, rfl⟩
      rw [hd.out]
      go_wp2_with fail
      go_ret
      refine ⟨_, rfl, ⟨w.heap.size, pl, pr, rfl, ?_, At_below ((Below.refl _ _).alloc (Nat.le_refl _) _) HL.out, At_below ((Below.refl _ _).alloc (Nat.le_refl _) _) HR.out⟩, (Below.refl _ _).alloc (Nat.le_refl _) _⟩
      rw [hn1.out, hn2.out, hm.out]
      exact Blk.new _ _ _
end Go.Proofs.Ytiffjjophmgdlaa
