/-
  Layer 11: level. (Printed by gen_r11level.py.)
-/
import Derived.Test.YtiffjjophmgdlaaTree
import Derived.Deep.RegionHeld3
import Derived.Deep.DrawnRows
namespace Go.Proofs.Ytiffjjophmgdlaa
open Go.RowKit Tb
attribute [local go_sem ↓] Go.wp_at_zero Go.wp_at_succ

theorem below_drewM (w : World) (k : Nat) : Below w.heap.size w (w.drewN k) := ⟨rfl, rfl, rfl, Nat.le_refl _, fun _ _ => rfl⟩
theorem below_on {B : Nat} {a w w1 w2 : World} (h : Below B a w) (hB : B ≤ w.heap.size) (hb : Below w1.heap.size w1 w2) (h1 : w1.heap = w.heap) (h2 : w1.os = w.os) (h3 : w1.tape = w.tape) (h4 : w1.output = w.output) : Below B a w2 :=
  ⟨hb.os.trans (h2.trans h.os), hb.tape.trans (h3.trans h.tape), hb.output.trans (h4.trans h.output), by have := hb.size; rw [h1] at this; exact Nat.le_trans h.size this, fun k hk => (hb.block k (by rw [h1]; omega)).trans (by rw [h1]; exact h.block k hk)⟩
set_option maxRecDepth 100000 in
set_option maxHeartbeats 4000000 in
theorem level_plain (l r : Tr) (k v : ByteArray) (pl pr : Option Addr) (w : World) (hl : At w l pl) (hr : At w r pr) (hc : l.cnt + r.cnt + 1 ≤ 1099511627776) (h1 : l.tall ≤ r.tall + 1) (h2 : r.tall ≤ l.tall + 1) :
    Calls Try.prog 38 #[.pointer pl, .string k, .string v, .pointer pr] w (Made w (.node k v l r)) := by
  have HL := Lib.hid hl
  have HR := Lib.hid hr
  have HC := Lib.hid hc
  have hx1 := tall_le l
  have hx2 := tall_le r
  obtain ⟨a, ha⟩ : ∃ a, Hid (l.tall = a) := ⟨_, Lib.hid rfl⟩
  obtain ⟨b, hb⟩ : ∃ b, Hid (r.tall = b) := ⟨_, Lib.hid rfl⟩
  have g1 : ¬ (b : Int) + 1 < (a : Int) := by have := ha.out; have := hb.out; omega
  have g2 : ¬ (a : Int) + 1 < (b : Int) := by have := ha.out; have := hb.out; omega
  have g3 : a ≤ 1099511627776 := by have := ha.out; omega
  have g4 : b ≤ 1099511627776 := by have := hb.out; omega
  clear hl hr hc hx1 hx2 h1 h2
  go_enter Try.func38, Try.ntmps38
  go_wp2_with fail
  refine (tall_any l pl w HL.out).mono ?_
  rintro e w' ⟨rfl, rfl⟩
  rw [ha.out]
  go_wp2_with fail
  refine (tall_any r pr w HR.out).mono ?_
  rintro e w' ⟨rfl, rfl⟩
  rw [hb.out]
  go_wp2_with fail
  refine (join_any l r k v pl pr w HL.out HR.out HC.out).mono ?_
  rintro e w' ⟨p, rfl, hp, hb⟩
  go_wp2_with fail
  go_ret
  exact ⟨p, rfl, hp, hb⟩
set_option maxRecDepth 100000 in
set_option maxHeartbeats 8000000 in
theorem level_l1 (ll lr r : Tr) (nk nv k v : ByteArray) (pl pr : Option Addr) (w : World) (hl : At w (Tr.node nk nv ll lr) pl) (hr : At w r pr) (hc : (Tr.node nk nv ll lr).cnt + r.cnt + 1 ≤ 1099511627776) (h1 : r.tall + 1 < (Tr.node nk nv ll lr).tall) (h2 : lr.tall ≤ ll.tall) :
    Calls Try.prog 38 #[.pointer pl, .string k, .string v, .pointer pr] w (Made w (.node nk nv ll (.node k v lr r))) := by
  have HT := Lib.hid hl
  have HR := Lib.hid hr
  obtain ⟨g, pa, pb, rfl, hblk, hla, hlb⟩ := hl
  have HLA : Hid (At w ll pa) := Lib.hid hla
  have HLB : Hid (At w lr pb) := Lib.hid hlb
  have HB := Lib.hid hblk
  have hx1 := tall_le (Tr.node nk nv ll lr)
  have hx2 := tall_le r
  have hc1 : Hid (lr.cnt + r.cnt + 1 ≤ 1099511627776) := Lib.hid (by simp only [Tr.cnt] at hc ⊢; omega)
  have hc2 : Hid (ll.cnt + (Tr.node k v lr r).cnt + 1 ≤ 1099511627776) := Lib.hid (by simp only [Tr.cnt] at hc ⊢; omega)
  obtain ⟨a, ha⟩ : ∃ a, Hid ((Tr.node nk nv ll lr).tall = a) := ⟨_, Lib.hid rfl⟩
  obtain ⟨b, hb⟩ : ∃ b, Hid (r.tall = b) := ⟨_, Lib.hid rfl⟩
  obtain ⟨c, hcc⟩ : ∃ c, Hid (ll.tall = c) := ⟨_, Lib.hid rfl⟩
  obtain ⟨d, hd⟩ : ∃ d, Hid (lr.tall = d) := ⟨_, Lib.hid rfl⟩
  have g1 : (b : Int) + 1 < (a : Int) := by have := ha.out; have := hb.out; omega
  have g2 : (d : Int) ≤ (c : Int) := by have := hcc.out; have := hd.out; omega
  have g3 : a ≤ 1099511627776 := by have := ha.out; omega
  have g4 : b ≤ 1099511627776 := by have := hb.out; omega
  obtain ⟨c0, c1, c2, c3, _, _⟩ := nd_cells hblk
  have hglt := hblk.lt
  clear hr hc hx1 hx2 h1 h2 hla hlb hblk
  go_enter Try.func38, Try.ntmps38
  go_wp2_with fail
  refine (tall_any _ _ w HT.out).mono ?_
  rintro e w' ⟨rfl, rfl⟩
  rw [ha.out]
  go_wp2_with fail
  refine (tall_any _ _ w HR.out).mono ?_
  rintro e w' ⟨rfl, rfl⟩
  rw [hb.out]
  go_wp2_with fail
  have s1 := fun n : Nat => quiet_of_left (tall_any ll pa (w.drewN n) (At_below (below_drewM w n) HLA.out))
  have s2 := fun n : Nat => quiet_of_left (tall_any lr pb (w.drewN n) (At_below (below_drewM w n) HLB.out))
  rw [hcc.out] at s1
  rw [hd.out] at s2
  go_quiet ((go_at_call 40; first | with_reducible exact s1 _ | with_reducible exact s2 _))
  have hb0 := Lib.hid (below_drewM w nq)
  have HLA1 := Lib.hid (At_below hb0.out HLA.out)
  have HLB1 := Lib.hid (At_below hb0.out HLB.out)
  have HR1 := Lib.hid (At_below hb0.out HR.out)
  have HB1 := Lib.hid (HB.out.below hb0.out HB.out.lt)
  clear c0 c1 c2 c3 s1 s2 hglt HLA HLB HR HT HB
  generalize w.drewN nq = w1 at hb0 HLA1 HLB1 HR1 HB1 ⊢
  obtain ⟨c0, c1, c2, c3, _, _⟩ := nd_cells HB1.out
  have hglt := HB1.out.lt
  go_wp2_with fail
  have J1 := hide fun (W : World) (h : Below w1.heap.size w1 W) => join_any lr r k v pb pr W (At_below h HLB1.out) (At_below h HR1.out) hc1.out
  have J2 := hide fun (W : World) (h : Below w1.heap.size w1 W) (p : Option Addr) (hp : At W (.node k v lr r) p) => join_any ll (.node k v lr r) nk nv pa p W (At_below h HLA1.out) hp hc2.out
  clear HLA1 HLB1 HR1  ha hb hcc hd g1 g2 g3 g4
  have CS : ∀ W : World, Below w1.heap.size w1 W → (W.cell? ⟨g, 0, none⟩ = some (.string nk) ∧ W.cell? ⟨g, 1, none⟩ = some (.string nv) ∧ W.cell? ⟨g, 2, none⟩ = some (.pointer pa) ∧ W.cell? ⟨g, 3, none⟩ = some (.pointer pb)) := fun W hW => by
    have hg := HB1.out.below hW hglt
    obtain ⟨y0, y1, y2, y3, _, _⟩ := nd_cells hg
    exact ⟨y0, y1, y2, y3⟩
  have HCS := hide CS
  clear CS
  go_region_held3 (fun w' => w'.cell? ⟨g, 0, none⟩ = some (.string nk) ∧ w'.cell? ⟨g, 1, none⟩ = some (.string nv) ∧ w'.cell? ⟨g, 2, none⟩ = some (.pointer pa) ∧ w'.cell? ⟨g, 3, none⟩ = some (.pointer pb)) (go_keep)
    (first
      | (go_at_call_of 37 (Value.pointer pb); refine (unhide J1 _ ?_).mono ?_; (first | exact ⟨HB5.out.os, HB5.out.tape, HB5.out.output, HB5.out.size, HB5.out.block⟩ | exact ⟨HB6.out.os, HB6.out.tape, HB6.out.output, HB6.out.size, HB6.out.block⟩ | exact ⟨rfl, rfl, rfl, Nat.le_refl _, fun _ _ => rfl⟩); rintro e w5 ⟨p5, rfl, hp5, hb5⟩; have HB5 : Hid (Below w1.heap.size w1 w5) := Lib.hid (below_on (Below.refl w1.heap.size w1) (Nat.le_refl _) hb5 rfl rfl rfl rfl); obtain ⟨d0, d1, d2, d3⟩ := unhide HCS w5 HB5.out; clear hb5)
      | (go_at_call_of 37 (Value.pointer pa); refine (unhide J2 _ ?_ _ ?_).mono ?_; (first | exact ⟨HB5.out.os, HB5.out.tape, HB5.out.output, HB5.out.size, HB5.out.block⟩ | exact ⟨HB6.out.os, HB6.out.tape, HB6.out.output, HB6.out.size, HB6.out.block⟩ | exact ⟨rfl, rfl, rfl, Nat.le_refl _, fun _ _ => rfl⟩); (exact hp5); rintro e w6 ⟨p6, rfl, hp6, hb6⟩; have HB6 : Hid (Below w1.heap.size w1 w6) := Lib.hid (below_on HB5.out HB5.out.size hb6 rfl rfl rfl rfl); obtain ⟨e0, e1, e2, e3⟩ := unhide HCS w6 HB6.out; clear hb6))
  go_wp2_with fail
  go_ret
  exact ⟨p6, rfl, hp6, hb0.out.trans (HB6.out.mono hb0.out.size)⟩
set_option maxRecDepth 100000 in
set_option maxHeartbeats 8000000 in
theorem level_r1 (rl rr l : Tr) (nk nv k v : ByteArray) (pl pr : Option Addr) (w : World) (hl : At w (Tr.node nk nv rl rr) pl) (hr : At w l pr) (hc : (Tr.node nk nv rl rr).cnt + l.cnt + 1 ≤ 1099511627776) (h1 : l.tall + 1 < (Tr.node nk nv rl rr).tall) (h2 : rl.tall ≤ rr.tall) :
    Calls Try.prog 38 #[.pointer pr, .string k, .string v, .pointer pl] w (Made w (.node nk nv (.node k v l rl) rr)) := by
  have HT := Lib.hid hl
  have HR := Lib.hid hr
  obtain ⟨g, pa, pb, rfl, hblk, hla, hlb⟩ := hl
  have HLA : Hid (At w rl pa) := Lib.hid hla
  have HLB : Hid (At w rr pb) := Lib.hid hlb
  have HB := Lib.hid hblk
  have hx1 := tall_le (Tr.node nk nv rl rr)
  have hx2 := tall_le l
  have hc1 : Hid (l.cnt + rl.cnt + 1 ≤ 1099511627776) := Lib.hid (by simp only [Tr.cnt] at hc ⊢; omega)
  have hc2 : Hid ((Tr.node k v l rl).cnt + rr.cnt + 1 ≤ 1099511627776) := Lib.hid (by simp only [Tr.cnt] at hc ⊢; omega)
  obtain ⟨a, ha⟩ : ∃ a, Hid (l.tall = a) := ⟨_, Lib.hid rfl⟩
  obtain ⟨b, hb⟩ : ∃ b, Hid ((Tr.node nk nv rl rr).tall = b) := ⟨_, Lib.hid rfl⟩
  obtain ⟨c, hcc⟩ : ∃ c, Hid (rl.tall = c) := ⟨_, Lib.hid rfl⟩
  obtain ⟨d, hd⟩ : ∃ d, Hid (rr.tall = d) := ⟨_, Lib.hid rfl⟩
  have g1 : ¬ (b : Int) + 1 < (a : Int) := by have := ha.out; have := hb.out; omega
  have g5 : (a : Int) + 1 < (b : Int) := by have := ha.out; have := hb.out; omega
  have g2 : (c : Int) ≤ (d : Int) := by have := hcc.out; have := hd.out; omega
  have g3 : a ≤ 1099511627776 := by have := ha.out; omega
  have g4 : b ≤ 1099511627776 := by have := hb.out; omega
  obtain ⟨c0, c1, c2, c3, _, _⟩ := nd_cells hblk
  have hglt := hblk.lt
  clear hr hc hx1 hx2 h1 h2 hla hlb hblk
  go_enter Try.func38, Try.ntmps38
  go_wp2_with fail
  refine (tall_any _ _ w HR.out).mono ?_
  rintro e w' ⟨rfl, rfl⟩
  rw [ha.out]
  go_wp2_with fail
  refine (tall_any _ _ w HT.out).mono ?_
  rintro e w' ⟨rfl, rfl⟩
  rw [hb.out]
  go_wp2_with fail
  have s1 := fun n : Nat => quiet_of_left (tall_any rl pa (w.drewN n) (At_below (below_drewM w n) HLA.out))
  have s2 := fun n : Nat => quiet_of_left (tall_any rr pb (w.drewN n) (At_below (below_drewM w n) HLB.out))
  rw [hcc.out] at s1
  rw [hd.out] at s2
  go_quiet ((go_at_call 40; first | with_reducible exact s1 _ | with_reducible exact s2 _))
  have hb0 := Lib.hid (below_drewM w nq)
  have HLA1 := Lib.hid (At_below hb0.out HLA.out)
  have HLB1 := Lib.hid (At_below hb0.out HLB.out)
  have HR1 := Lib.hid (At_below hb0.out HR.out)
  have HB1 := Lib.hid (HB.out.below hb0.out HB.out.lt)
  clear c0 c1 c2 c3 s1 s2 hglt HLA HLB HR HT HB
  generalize w.drewN nq = w1 at hb0 HLA1 HLB1 HR1 HB1 ⊢
  obtain ⟨c0, c1, c2, c3, _, _⟩ := nd_cells HB1.out
  have hglt := HB1.out.lt
  go_wp2_with fail
  have J1 := hide fun (W : World) (h : Below w1.heap.size w1 W) => join_any l rl k v pr pa W (At_below h HR1.out) (At_below h HLA1.out) hc1.out
  have J2 := hide fun (W : World) (h : Below w1.heap.size w1 W) (p : Option Addr) (hp : At W (.node k v l rl) p) => join_any (.node k v l rl) rr nk nv p pb W hp (At_below h HLB1.out) hc2.out
  clear HLA1 HLB1 HR1  ha hb hcc hd g1 g2 g3 g4 g5
  have CS : ∀ W : World, Below w1.heap.size w1 W → (W.cell? ⟨g, 0, none⟩ = some (.string nk) ∧ W.cell? ⟨g, 1, none⟩ = some (.string nv) ∧ W.cell? ⟨g, 2, none⟩ = some (.pointer pa) ∧ W.cell? ⟨g, 3, none⟩ = some (.pointer pb)) := fun W hW => by
    have hg := HB1.out.below hW hglt
    obtain ⟨y0, y1, y2, y3, _, _⟩ := nd_cells hg
    exact ⟨y0, y1, y2, y3⟩
  have HCS := hide CS
  clear CS
  go_region_held3 (fun w' => w'.cell? ⟨g, 0, none⟩ = some (.string nk) ∧ w'.cell? ⟨g, 1, none⟩ = some (.string nv) ∧ w'.cell? ⟨g, 2, none⟩ = some (.pointer pa) ∧ w'.cell? ⟨g, 3, none⟩ = some (.pointer pb)) (go_keep)
    (first
      | (go_at_call_of 37 (Value.pointer pr); refine (unhide J1 _ ?_).mono ?_; (first | exact ⟨HB5.out.os, HB5.out.tape, HB5.out.output, HB5.out.size, HB5.out.block⟩ | exact ⟨HB6.out.os, HB6.out.tape, HB6.out.output, HB6.out.size, HB6.out.block⟩ | exact ⟨rfl, rfl, rfl, Nat.le_refl _, fun _ _ => rfl⟩); rintro e w5 ⟨p5, rfl, hp5, hb5⟩; have HB5 : Hid (Below w1.heap.size w1 w5) := Lib.hid (below_on (Below.refl w1.heap.size w1) (Nat.le_refl _) hb5 rfl rfl rfl rfl); obtain ⟨d0, d1, d2, d3⟩ := unhide HCS w5 HB5.out; clear hb5)
      | (go_at_call_of 37 (Value.pointer p5); refine (unhide J2 _ ?_ _ ?_).mono ?_; (first | exact ⟨HB5.out.os, HB5.out.tape, HB5.out.output, HB5.out.size, HB5.out.block⟩ | exact ⟨HB6.out.os, HB6.out.tape, HB6.out.output, HB6.out.size, HB6.out.block⟩ | exact ⟨rfl, rfl, rfl, Nat.le_refl _, fun _ _ => rfl⟩); (exact hp5); rintro e w6 ⟨p6, rfl, hp6, hb6⟩; have HB6 : Hid (Below w1.heap.size w1 w6) := Lib.hid (below_on HB5.out HB5.out.size hb6 rfl rfl rfl rfl); obtain ⟨e0, e1, e2, e3⟩ := unhide HCS w6 HB6.out; clear hb6))
  go_wp2_with fail
  go_ret
  exact ⟨p6, rfl, hp6, hb0.out.trans (HB6.out.mono hb0.out.size)⟩
set_option maxRecDepth 100000 in
set_option maxHeartbeats 8000000 in
theorem level_l2 (ll ml mr r : Tr) (nk nv k v mk mv : ByteArray) (pl pr : Option Addr) (w : World) (hl : At w (Tr.node nk nv ll (.node mk mv ml mr)) pl) (hr : At w r pr) (hc : (Tr.node nk nv ll (.node mk mv ml mr)).cnt + r.cnt + 1 ≤ 1099511627776) (h1 : r.tall + 1 < (Tr.node nk nv ll (.node mk mv ml mr)).tall) (h2 : ll.tall < (Tr.node mk mv ml mr).tall) :
    Calls Try.prog 38 #[.pointer pl, .string k, .string v, .pointer pr] w (Made w (.node mk mv (.node nk nv ll ml) (.node k v mr r))) := by
  have HT := Lib.hid hl
  have HR := Lib.hid hr
  obtain ⟨g, pa, pb, rfl, hblk, hla, hlb⟩ := hl
  have HLA : Hid (At w ll pa) := Lib.hid hla
  have HLB : Hid (At w (.node mk mv ml mr) pb) := Lib.hid hlb
  have HB := Lib.hid hblk
  have hx1 := tall_le (Tr.node nk nv ll (.node mk mv ml mr))
  have hx2 := tall_le r
  have hc1 : Hid (ll.cnt + ml.cnt + 1 ≤ 1099511627776) := Lib.hid (by simp only [Tr.cnt] at hc ⊢; omega)
  have hc2 : Hid (mr.cnt + r.cnt + 1 ≤ 1099511627776) := Lib.hid (by simp only [Tr.cnt] at hc ⊢; omega)
  have hc3 : Hid ((Tr.node nk nv ll ml).cnt + (Tr.node k v mr r).cnt + 1 ≤ 1099511627776) := Lib.hid (by simp only [Tr.cnt] at hc ⊢; omega)
  obtain ⟨a, ha⟩ : ∃ a, Hid ((Tr.node nk nv ll (.node mk mv ml mr)).tall = a) := ⟨_, Lib.hid rfl⟩
  obtain ⟨b, hb⟩ : ∃ b, Hid (r.tall = b) := ⟨_, Lib.hid rfl⟩
  obtain ⟨c, hcc⟩ : ∃ c, Hid (ll.tall = c) := ⟨_, Lib.hid rfl⟩
  obtain ⟨d, hd⟩ : ∃ d, Hid ((Tr.node mk mv ml mr).tall = d) := ⟨_, Lib.hid rfl⟩
  have g1 : (b : Int) + 1 < (a : Int) := by have := ha.out; have := hb.out; omega
  have g2 : (c : Int) < (d : Int) := by have := hcc.out; have := hd.out; omega
  have g3 : a ≤ 1099511627776 := by have := ha.out; omega
  have g4 : b ≤ 1099511627776 := by have := hb.out; omega
  obtain ⟨c0, c1, c2, c3, _, _⟩ := nd_cells hblk
  have hglt := hblk.lt
  clear hr hc hx1 hx2 h1 h2 hla hlb hblk
  go_enter Try.func38, Try.ntmps38
  go_wp2_with fail
  refine (tall_any _ _ w HT.out).mono ?_
  rintro e w' ⟨rfl, rfl⟩
  rw [ha.out]
  go_wp2_with fail
  refine (tall_any _ _ w HR.out).mono ?_
  rintro e w' ⟨rfl, rfl⟩
  rw [hb.out]
  go_wp2_with fail
  have s1 := fun n : Nat => quiet_of_left (tall_any ll pa (w.drewN n) (At_below (below_drewM w n) HLA.out))
  have s2 := fun n : Nat => quiet_of_left (tall_any (Tr.node mk mv ml mr) pb (w.drewN n) (At_below (below_drewM w n) HLB.out))
  rw [hcc.out] at s1
  rw [hd.out] at s2
  go_quiet ((go_at_call 40; first | with_reducible exact s1 _ | with_reducible exact s2 _))
  have hb0 := Lib.hid (below_drewM w nq)
  have HLA1 := Lib.hid (At_below hb0.out HLA.out)
  have HLB1 := Lib.hid (At_below hb0.out HLB.out)
  have HR1 := Lib.hid (At_below hb0.out HR.out)
  have HB1 := Lib.hid (HB.out.below hb0.out HB.out.lt)
  clear c0 c1 c2 c3 s1 s2 hglt HLA HLB HR HT HB
  generalize w.drewN nq = w1 at hb0 HLA1 HLB1 HR1 HB1 ⊢
  obtain ⟨c0, c1, c2, c3, _, _⟩ := nd_cells HB1.out
  have hglt := HB1.out.lt
  obtain ⟨m, qa, qb, rfl, hblk, hma, hmb⟩ := HLB1.out
  have HMA : Hid (At w1 ml qa) := Lib.hid hma
  have HMB : Hid (At w1 mr qb) := Lib.hid hmb
  have HBM := Lib.hid hblk
  obtain ⟨x0, x1, x2, x3, _, _⟩ := nd_cells hblk
  have hmlt := hblk.lt
  clear hma hmb hblk
  go_wp2_with fail
  have J1 := hide fun (W : World) (h : Below w1.heap.size w1 W) => join_any ll ml nk nv pa qa W (At_below h HLA1.out) (At_below h HMA.out) hc1.out
  have J2 := hide fun (W : World) (h : Below w1.heap.size w1 W) => join_any mr r k v qb pr W (At_below h HMB.out) (At_below h HR1.out) hc2.out
  have J3 := hide fun (W : World) (p q : Option Addr) (hp : At W (.node nk nv ll ml) p) (hq : At W (.node k v mr r) q) => join_any (.node nk nv ll ml) (.node k v mr r) mk mv p q W hp hq hc3.out
  clear HLA1 HLB1 HR1 HMA HMB ha hb hcc hd g1 g2 g3 g4
  have CS : ∀ W : World, Below w1.heap.size w1 W → (W.cell? ⟨g, 0, none⟩ = some (.string nk) ∧ W.cell? ⟨g, 1, none⟩ = some (.string nv) ∧ W.cell? ⟨g, 2, none⟩ = some (.pointer pa) ∧ W.cell? ⟨g, 3, none⟩ = some (.pointer (some ⟨m, 0, none⟩)) ∧ W.cell? ⟨m, 0, none⟩ = some (.string mk) ∧ W.cell? ⟨m, 1, none⟩ = some (.string mv) ∧ W.cell? ⟨m, 2, none⟩ = some (.pointer qa) ∧ W.cell? ⟨m, 3, none⟩ = some (.pointer qb)) := fun W hW => by
    have hg := HB1.out.below hW hglt
    obtain ⟨y0, y1, y2, y3, _, _⟩ := nd_cells hg
    have hm := HBM.out.below hW hmlt
    obtain ⟨z0, z1, z2, z3, _, _⟩ := nd_cells hm
    exact ⟨y0, y1, y2, y3, z0, z1, z2, z3⟩
  have HCS := hide CS
  clear CS
  go_region_held3 (fun w' => w'.cell? ⟨g, 0, none⟩ = some (.string nk) ∧ w'.cell? ⟨g, 1, none⟩ = some (.string nv) ∧ w'.cell? ⟨g, 2, none⟩ = some (.pointer pa) ∧ w'.cell? ⟨g, 3, none⟩ = some (.pointer (some ⟨m, 0, none⟩)) ∧ w'.cell? ⟨m, 0, none⟩ = some (.string mk) ∧ w'.cell? ⟨m, 1, none⟩ = some (.string mv) ∧ w'.cell? ⟨m, 2, none⟩ = some (.pointer qa) ∧ w'.cell? ⟨m, 3, none⟩ = some (.pointer qb)) (go_keep)
    (first
      | (go_at_call_of 37 (Value.pointer pa); refine (unhide J1 _ ?_).mono ?_; (first | exact ⟨HB5.out.os, HB5.out.tape, HB5.out.output, HB5.out.size, HB5.out.block⟩ | exact ⟨HB6.out.os, HB6.out.tape, HB6.out.output, HB6.out.size, HB6.out.block⟩ | exact ⟨rfl, rfl, rfl, Nat.le_refl _, fun _ _ => rfl⟩); rintro e w5 ⟨p5, rfl, hp5, hb5⟩; have HB5 : Hid (Below w1.heap.size w1 w5) := Lib.hid (by first | exact below_on HB6.out HB6.out.size hb5 rfl rfl rfl rfl | exact below_on (Below.refl w1.heap.size w1) (Nat.le_refl _) hb5 rfl rfl rfl rfl); have HP5 : Hid (At w5 (.node nk nv ll ml) p5) := Lib.hid hp5; (try have HP6b := Lib.hid (At_below hb5 HP6.out)); obtain ⟨d0, d1, d2, d3, d4, d5, d6, d7⟩ := unhide HCS w5 HB5.out; clear hb5 hp5)
      | (go_at_call_of 37 (Value.pointer qb); refine (unhide J2 _ ?_).mono ?_; (first | exact ⟨HB5.out.os, HB5.out.tape, HB5.out.output, HB5.out.size, HB5.out.block⟩ | exact ⟨HB6.out.os, HB6.out.tape, HB6.out.output, HB6.out.size, HB6.out.block⟩ | exact ⟨rfl, rfl, rfl, Nat.le_refl _, fun _ _ => rfl⟩); rintro e w6 ⟨p6, rfl, hp6, hb6⟩; have HB6 : Hid (Below w1.heap.size w1 w6) := Lib.hid (by first | exact below_on HB5.out HB5.out.size hb6 rfl rfl rfl rfl | exact below_on (Below.refl w1.heap.size w1) (Nat.le_refl _) hb6 rfl rfl rfl rfl); have HP6 : Hid (At w6 (.node k v mr r) p6) := Lib.hid hp6; (try have HP5b := Lib.hid (At_below hb6 HP5.out)); obtain ⟨e0, e1, e2, e3, e4, e5, e6, e7⟩ := unhide HCS w6 HB6.out; clear hb6 hp6)
      | (go_at_call_of 37 (Value.pointer p5); refine (unhide J3 _ _ _ ?_ ?_).mono ?_; (first | exact HP5b.out | exact HP5.out); (first | exact HP6b.out | exact HP6.out); rintro e w7 ⟨p7, rfl, hp7, hb7⟩; have HB7 : Hid (Below w1.heap.size w1 w7) := Lib.hid (by first | exact below_on HB6.out HB6.out.size hb7 rfl rfl rfl rfl | exact below_on HB5.out HB5.out.size hb7 rfl rfl rfl rfl); obtain ⟨f0, f1, f2, f3, f4, f5, f6, f7⟩ := unhide HCS w7 HB7.out; clear hb7))
  all_goals
    go_wp2_with fail
    go_ret
    exact ⟨p7, rfl, hp7, hb0.out.trans (HB7.out.mono hb0.out.size)⟩
set_option maxRecDepth 100000 in
set_option maxHeartbeats 8000000 in
theorem level_r2 (ml mr rr l : Tr) (nk nv k v mk mv : ByteArray) (pl pr : Option Addr) (w : World) (hl : At w (Tr.node nk nv (.node mk mv ml mr) rr) pl) (hr : At w l pr) (hc : (Tr.node nk nv (.node mk mv ml mr) rr).cnt + l.cnt + 1 ≤ 1099511627776) (h1 : l.tall + 1 < (Tr.node nk nv (.node mk mv ml mr) rr).tall) (h2 : rr.tall < (Tr.node mk mv ml mr).tall) :
    Calls Try.prog 38 #[.pointer pr, .string k, .string v, .pointer pl] w (Made w (.node mk mv (.node k v l ml) (.node nk nv mr rr))) := by
  have HT := Lib.hid hl
  have HR := Lib.hid hr
  obtain ⟨g, pa, pb, rfl, hblk, hla, hlb⟩ := hl
  have HLA : Hid (At w (.node mk mv ml mr) pa) := Lib.hid hla
  have HLB : Hid (At w rr pb) := Lib.hid hlb
  have HB := Lib.hid hblk
  have hx1 := tall_le (Tr.node nk nv (.node mk mv ml mr) rr)
  have hx2 := tall_le l
  have hc1 : Hid (l.cnt + ml.cnt + 1 ≤ 1099511627776) := Lib.hid (by simp only [Tr.cnt] at hc ⊢; omega)
  have hc2 : Hid (mr.cnt + rr.cnt + 1 ≤ 1099511627776) := Lib.hid (by simp only [Tr.cnt] at hc ⊢; omega)
  have hc3 : Hid ((Tr.node k v l ml).cnt + (Tr.node nk nv mr rr).cnt + 1 ≤ 1099511627776) := Lib.hid (by simp only [Tr.cnt] at hc ⊢; omega)
  obtain ⟨a, ha⟩ : ∃ a, Hid (l.tall = a) := ⟨_, Lib.hid rfl⟩
  obtain ⟨b, hb⟩ : ∃ b, Hid ((Tr.node nk nv (.node mk mv ml mr) rr).tall = b) := ⟨_, Lib.hid rfl⟩
  obtain ⟨c, hcc⟩ : ∃ c, Hid ((Tr.node mk mv ml mr).tall = c) := ⟨_, Lib.hid rfl⟩
  obtain ⟨d, hd⟩ : ∃ d, Hid (rr.tall = d) := ⟨_, Lib.hid rfl⟩
  have g1 : ¬ (b : Int) + 1 < (a : Int) := by have := ha.out; have := hb.out; omega
  have g5 : (a : Int) + 1 < (b : Int) := by have := ha.out; have := hb.out; omega
  have g2 : (d : Int) < (c : Int) := by have := hcc.out; have := hd.out; omega
  have g3 : a ≤ 1099511627776 := by have := ha.out; omega
  have g4 : b ≤ 1099511627776 := by have := hb.out; omega
  obtain ⟨c0, c1, c2, c3, _, _⟩ := nd_cells hblk
  have hglt := hblk.lt
  clear hr hc hx1 hx2 h1 h2 hla hlb hblk
  go_enter Try.func38, Try.ntmps38
  go_wp2_with fail
  refine (tall_any _ _ w HR.out).mono ?_
  rintro e w' ⟨rfl, rfl⟩
  rw [ha.out]
  go_wp2_with fail
  refine (tall_any _ _ w HT.out).mono ?_
  rintro e w' ⟨rfl, rfl⟩
  rw [hb.out]
  go_wp2_with fail
  have s1 := fun n : Nat => quiet_of_left (tall_any (Tr.node mk mv ml mr) pa (w.drewN n) (At_below (below_drewM w n) HLA.out))
  have s2 := fun n : Nat => quiet_of_left (tall_any rr pb (w.drewN n) (At_below (below_drewM w n) HLB.out))
  rw [hcc.out] at s1
  rw [hd.out] at s2
  go_quiet ((go_at_call 40; first | with_reducible exact s1 _ | with_reducible exact s2 _))
  have hb0 := Lib.hid (below_drewM w nq)
  have HLA1 := Lib.hid (At_below hb0.out HLA.out)
  have HLB1 := Lib.hid (At_below hb0.out HLB.out)
  have HR1 := Lib.hid (At_below hb0.out HR.out)
  have HB1 := Lib.hid (HB.out.below hb0.out HB.out.lt)
  clear c0 c1 c2 c3 s1 s2 hglt HLA HLB HR HT HB
  generalize w.drewN nq = w1 at hb0 HLA1 HLB1 HR1 HB1 ⊢
  obtain ⟨c0, c1, c2, c3, _, _⟩ := nd_cells HB1.out
  have hglt := HB1.out.lt
  obtain ⟨m, qa, qb, rfl, hblk, hma, hmb⟩ := HLA1.out
  have HMA : Hid (At w1 ml qa) := Lib.hid hma
  have HMB : Hid (At w1 mr qb) := Lib.hid hmb
  have HBM := Lib.hid hblk
  obtain ⟨x0, x1, x2, x3, _, _⟩ := nd_cells hblk
  have hmlt := hblk.lt
  clear hma hmb hblk
  go_wp2_with fail
  have J1 := hide fun (W : World) (h : Below w1.heap.size w1 W) => join_any l ml k v pr qa W (At_below h HR1.out) (At_below h HMA.out) hc1.out
  have J2 := hide fun (W : World) (h : Below w1.heap.size w1 W) => join_any mr rr nk nv qb pb W (At_below h HMB.out) (At_below h HLB1.out) hc2.out
  have J3 := hide fun (W : World) (p q : Option Addr) (hp : At W (.node k v l ml) p) (hq : At W (.node nk nv mr rr) q) => join_any (.node k v l ml) (.node nk nv mr rr) mk mv p q W hp hq hc3.out
  clear HLA1 HLB1 HR1 HMA HMB ha hb hcc hd g1 g2 g3 g4 g5
  have CS : ∀ W : World, Below w1.heap.size w1 W → (W.cell? ⟨g, 0, none⟩ = some (.string nk) ∧ W.cell? ⟨g, 1, none⟩ = some (.string nv) ∧ W.cell? ⟨g, 2, none⟩ = some (.pointer (some ⟨m, 0, none⟩)) ∧ W.cell? ⟨g, 3, none⟩ = some (.pointer pb) ∧ W.cell? ⟨m, 0, none⟩ = some (.string mk) ∧ W.cell? ⟨m, 1, none⟩ = some (.string mv) ∧ W.cell? ⟨m, 2, none⟩ = some (.pointer qa) ∧ W.cell? ⟨m, 3, none⟩ = some (.pointer qb)) := fun W hW => by
    have hg := HB1.out.below hW hglt
    obtain ⟨y0, y1, y2, y3, _, _⟩ := nd_cells hg
    have hm := HBM.out.below hW hmlt
    obtain ⟨z0, z1, z2, z3, _, _⟩ := nd_cells hm
    exact ⟨y0, y1, y2, y3, z0, z1, z2, z3⟩
  have HCS := hide CS
  clear CS
  go_region_held3 (fun w' => w'.cell? ⟨g, 0, none⟩ = some (.string nk) ∧ w'.cell? ⟨g, 1, none⟩ = some (.string nv) ∧ w'.cell? ⟨g, 2, none⟩ = some (.pointer (some ⟨m, 0, none⟩)) ∧ w'.cell? ⟨g, 3, none⟩ = some (.pointer pb) ∧ w'.cell? ⟨m, 0, none⟩ = some (.string mk) ∧ w'.cell? ⟨m, 1, none⟩ = some (.string mv) ∧ w'.cell? ⟨m, 2, none⟩ = some (.pointer qa) ∧ w'.cell? ⟨m, 3, none⟩ = some (.pointer qb)) (go_keep)
    (first
      | (go_at_call_of 37 (Value.pointer pr); refine (unhide J1 _ ?_).mono ?_; (first | exact ⟨HB5.out.os, HB5.out.tape, HB5.out.output, HB5.out.size, HB5.out.block⟩ | exact ⟨HB6.out.os, HB6.out.tape, HB6.out.output, HB6.out.size, HB6.out.block⟩ | exact ⟨rfl, rfl, rfl, Nat.le_refl _, fun _ _ => rfl⟩); rintro e w5 ⟨p5, rfl, hp5, hb5⟩; have HB5 : Hid (Below w1.heap.size w1 w5) := Lib.hid (by first | exact below_on HB6.out HB6.out.size hb5 rfl rfl rfl rfl | exact below_on (Below.refl w1.heap.size w1) (Nat.le_refl _) hb5 rfl rfl rfl rfl); have HP5 : Hid (At w5 (.node k v l ml) p5) := Lib.hid hp5; (try have HP6b := Lib.hid (At_below hb5 HP6.out)); obtain ⟨d0, d1, d2, d3, d4, d5, d6, d7⟩ := unhide HCS w5 HB5.out; clear hb5 hp5)
      | (go_at_call_of 37 (Value.pointer qb); refine (unhide J2 _ ?_).mono ?_; (first | exact ⟨HB5.out.os, HB5.out.tape, HB5.out.output, HB5.out.size, HB5.out.block⟩ | exact ⟨HB6.out.os, HB6.out.tape, HB6.out.output, HB6.out.size, HB6.out.block⟩ | exact ⟨rfl, rfl, rfl, Nat.le_refl _, fun _ _ => rfl⟩); rintro e w6 ⟨p6, rfl, hp6, hb6⟩; have HB6 : Hid (Below w1.heap.size w1 w6) := Lib.hid (by first | exact below_on HB5.out HB5.out.size hb6 rfl rfl rfl rfl | exact below_on (Below.refl w1.heap.size w1) (Nat.le_refl _) hb6 rfl rfl rfl rfl); have HP6 : Hid (At w6 (.node nk nv mr rr) p6) := Lib.hid hp6; (try have HP5b := Lib.hid (At_below hb6 HP5.out)); obtain ⟨e0, e1, e2, e3, e4, e5, e6, e7⟩ := unhide HCS w6 HB6.out; clear hb6 hp6)
      | (go_at_call_of 37 (Value.pointer p5); refine (unhide J3 _ _ _ ?_ ?_).mono ?_; (first | exact HP5b.out | exact HP5.out); (first | exact HP6b.out | exact HP6.out); rintro e w7 ⟨p7, rfl, hp7, hb7⟩; have HB7 : Hid (Below w1.heap.size w1 w7) := Lib.hid (by first | exact below_on HB6.out HB6.out.size hb7 rfl rfl rfl rfl | exact below_on HB5.out HB5.out.size hb7 rfl rfl rfl rfl); obtain ⟨f0, f1, f2, f3, f4, f5, f6, f7⟩ := unhide HCS w7 HB7.out; clear hb7))
  all_goals
    go_wp2_with fail
    go_ret
    exact ⟨p7, rfl, hp7, hb0.out.trans (HB7.out.mono hb0.out.size)⟩
theorem level_any (l r : Tr) (k v : ByteArray) (pl pr : Option Addr) (w : World) (hl : At w l pl) (hr : At w r pr) (hc : l.cnt + r.cnt + 1 ≤ 1099511627776) :
    Calls Try.prog 38 #[.pointer pl, .string k, .string v, .pointer pr] w (Made w (lev l k v r)) := by
  unfold lev
  split
  · rename_i h
    cases l with
    | nil => simp [Tr.tall] at h
    | node lk lv ll lr =>
      dsimp only
      split
      · rename_i h2
        exact level_l1 ll lr r lk lv k v pl pr w hl hr hc h h2
      · rename_i h2
        cases lr with
        | nil => simp [Tr.tall] at h2
        | node mk mv ml mr => exact level_l2 ll ml mr r lk lv k v mk mv pl pr w hl hr hc h (by omega)
  · split
    · rename_i h
      cases r with
      | nil => simp [Tr.tall] at h
      | node rk rv rl rr =>
        dsimp only
        split
        · rename_i h2
          exact level_r1 rl rr l rk rv k v pr pl w hr hl (by omega) h h2
        · rename_i h2
          cases rl with
          | nil => simp [Tr.tall] at h2
          | node mk mv ml mr => exact level_r2 ml mr rr l rk rv k v mk mv pr pl w hr hl (by omega) h (by omega)
    · exact level_plain l r k v pl pr w hl hr hc (by omega) (by omega)
end Go.Proofs.Ytiffjjophmgdlaa
