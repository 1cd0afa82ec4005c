/-
  Layer 11: get, put; a Table in memory: New, Len, Bytes, Get, Put.
-/
import Derived.Test.YtiffjjophmgdlaaLevel
namespace Go.Proofs.Ytiffjjophmgdlaa
open Go.RowKit Tb
attribute [local go_sem ↓] Go.wp_at_zero Go.wp_at_succ

def foundV (o : Option ByteArray) : Value := .tuple #[.string (o.getD ⟨#[]⟩), .bool o.isSome]
set_option maxRecDepth 100000 in
set_option maxHeartbeats 4000000 in
theorem get_any (t : Tr) (p : Option Addr) (key : ByteArray) (w : World) (h : At w t p) :
    Calls Try.prog 29 #[.pointer p, .string key] w fun e w' => e = .returned (foundV (t.find key)) ∧ w = w' := by
  have H := Lib.hid h
  obtain ⟨res, hres⟩ : ∃ res, Hid (t.find key = res) := ⟨_, Lib.hid rfl⟩
  rw [hres.out]
  clear h
  go_enter Try.func29, Try.ntmps29
  go_wp2
  go_loopg [0] (t.cnt) (fun n v wr => ∃ (t' : Tr) (p' : Option Addr), v = .pointer p' ∧ t'.cnt ≤ n ∧ Hid (At w t' p') ∧ Hid (t'.find key = res) ∧ Hid (wr = w))
  case atStart => exact ⟨t, p, rfl, Nat.le_refl _, H, hres, Lib.hid rfl⟩
  case round =>
    obtain ⟨t', p', rfl, hn, hA, hF, hwr⟩ := hrel
    obtain rfl := hwr.out
    clear hwr
    cases t' with
    | nil =>
      obtain rfl : p' = none := hA.out
      have hr2 : res = none := hF.out.symm
      subst hr2
      go_wp2
      go_ret2
      exact ⟨rfl, rfl⟩
    | node k v l r =>
      obtain ⟨g, pl, pr, rfl, hblk, hl, hr⟩ := hA.out
      obtain ⟨c0, c1, c2, c3, _, _⟩ := nd_cells hblk
      have hHL := Lib.hid hl
      have hHR := Lib.hid hr
      have hcn : l.cnt + r.cnt + 1 ≤ gk := hn
      clear hl hr hblk hn
      cases h1 : lt key k
      · cases h2 : lt k key
        · obtain rfl : key = k := lt_total h1 h2
          have hr2 : res = some v := by
            rw [← hF.out]
            unfold Tr.find
            rw [h1, if_neg (by simp)]
            rfl
          subst hr2
          clear h1 h2
          go_wp2_with fail
          refine (cmp_eq key _).mono ?_
          rintro e w' ⟨rfl, rfl⟩
          go_wp2_with fail
          go_ret2
          exact ⟨rfl, rfl⟩
        · have hF2 : Hid (r.find key = res) := Lib.hid (by
            rw [← hF.out]
            conv => rhs; unfold Tr.find
            rw [h1, h2, if_neg (by simp), if_pos rfl])
          go_wp2_with fail
          refine (cmp_gt key k h2 _).mono ?_
          rintro e w' ⟨rfl, rfl⟩
          clear h1 h2 hF
          go_wp2_with fail
          go_roundg r.cnt
          case measure => omega
          case rel => exact ⟨r, pr, rfl, Nat.le_refl _, hHR, hF2, Lib.hid rfl⟩
      · have hF2 : Hid (l.find key = res) := Lib.hid (by
          rw [← hF.out]
          conv => rhs; unfold Tr.find
          rw [h1, if_pos rfl])
        go_wp2_with fail
        refine (cmp_lt key k h1 _).mono ?_
        rintro e w' ⟨rfl, rfl⟩
        clear h1 hF
        go_wp2_with fail
        go_roundg l.cnt
        case measure => omega
        case rel => exact ⟨l, pl, rfl, Nat.le_refl _, hHL, hF2, Lib.hid rfl⟩
set_option maxRecDepth 100000 in
set_option maxHeartbeats 8000000 in
theorem put_any (key val : ByteArray) : ∀ (t : Tr) (p : Option Addr) (w : World), At w t p → t.cnt + 2 ≤ 1099511627776 →
    Calls Try.prog 32 #[.pointer p, .string key, .string val] w (Made w (t.put key val))
  | .nil, p, w, h, _ => by
    obtain rfl : p = none := h
    go_enter Try.func32, Try.ntmps32
    go_wp2_with fail
    refine (join_any .nil .nil key val none none w rfl rfl (by simp [Tr.cnt])).mono ?_
    rintro e w' ⟨q, rfl, hq, hb⟩
    go_wp2_with fail
    go_ret
    exact ⟨q, rfl, hq, hb⟩
  | .node k v l r, p, w, h, hc => by
    have IL := hide fun (W : World) (p : Option Addr) (hp : At W l p) => put_any key val l p W hp (by simp only [Tr.cnt] at hc; omega)
    have IR := hide fun (W : World) (p : Option Addr) (hp : At W r p) => put_any key val r p W hp (by simp only [Tr.cnt] at hc; omega)
    have hcl : Hid ((l.put key val).cnt + r.cnt + 1 ≤ 1099511627776) := Lib.hid (by have := cnt_put key val l; simp only [Tr.cnt] at hc; omega)
    have hcr : Hid (l.cnt + (r.put key val).cnt + 1 ≤ 1099511627776) := Lib.hid (by have := cnt_put key val r; simp only [Tr.cnt] at hc; omega)
    have hc0 : Hid (l.cnt + r.cnt + 1 ≤ 1099511627776) := Lib.hid (by simp only [Tr.cnt] at hc; omega)
    obtain ⟨g, pl, pr, rfl, hblk, hl, hr⟩ := h
    obtain ⟨c0, c1, c2, c3, _, _⟩ := nd_cells hblk
    have hglt := hblk.lt
    have HB1 := Lib.hid hblk
    have HL := Lib.hid hl
    have HR := Lib.hid hr
    clear hl hr hblk hc
    have CS : ∀ W : World, Below w.heap.size w W → (W.cell? ⟨g, 0, none⟩ = some (.string k) ∧ W.cell? ⟨g, 1, none⟩ = some (.string v) ∧ W.cell? ⟨g, 2, none⟩ = some (.pointer pl) ∧ W.cell? ⟨g, 3, none⟩ = some (.pointer pr)) := fun W hW => by
      obtain ⟨y0, y1, y2, y3, _, _⟩ := nd_cells (HB1.out.below hW hglt)
      exact ⟨y0, y1, y2, y3⟩
    have HCS := hide CS
    clear CS
    unfold Tr.put
    cases h1 : lt key k
    · cases h2 : lt k key
      · obtain rfl : key = k := lt_total h1 h2
        rw [if_neg (by simp), if_neg (by simp)]
        have J1 := hide fun (W : World) (h : Below w.heap.size w W) => join_any l r key val pl pr W (At_below h HL.out) (At_below h HR.out) hc0.out
        clear h1 h2 IL IR hcl hcr
        go_enter Try.func32, Try.ntmps32
        go_wp2_with fail
        refine (cmp_eq key _).mono ?_
        rintro e w' ⟨rfl, rfl⟩
        go_wp2_with fail
        go_region_held3 (fun w' => w'.cell? ⟨g, 0, none⟩ = some (.string key) ∧ w'.cell? ⟨g, 1, none⟩ = some (.string v) ∧ w'.cell? ⟨g, 2, none⟩ = some (.pointer pl) ∧ w'.cell? ⟨g, 3, none⟩ = some (.pointer pr)) (go_keep)
          (first
            | (go_at_call 37; refine (unhide J1 _ ?_).mono ?_; (exact ⟨rfl, rfl, rfl, Nat.le_refl _, fun _ _ => rfl⟩); rintro e w5 ⟨p5, rfl, hp5, hb5⟩; have HB5 : Hid (Below w.heap.size w w5) := Lib.hid (below_on (Below.refl w.heap.size w) (Nat.le_refl _) hb5 rfl rfl rfl rfl); obtain ⟨d0, d1, d2, d3⟩ := unhide HCS w5 HB5.out; clear hb5))
        go_wp2_with fail
        go_ret
        exact ⟨p5, rfl, hp5, HB5.out⟩
      · rw [if_neg (by simp), if_pos rfl]
        have J1 := hide fun (W : World) (h : Below w.heap.size w W) => unhide IR W pr (At_below h HR.out)
        have J2 := hide fun (W : World) (h : Below w.heap.size w W) (q : Option Addr) (hq : At W (r.put key val) q) => level_any l (r.put key val) k v pl q W (At_below h HL.out) hq hcr.out
        clear IL IR hcl hcr hc0
        go_enter Try.func32, Try.ntmps32
        go_wp2_with fail
        refine (cmp_gt key k h2 _).mono ?_
        rintro e w' ⟨rfl, rfl⟩
        clear h1 h2
        go_wp2_with fail
        go_region_held3 (fun w' => w'.cell? ⟨g, 0, none⟩ = some (.string k) ∧ w'.cell? ⟨g, 1, none⟩ = some (.string v) ∧ w'.cell? ⟨g, 2, none⟩ = some (.pointer pl) ∧ w'.cell? ⟨g, 3, none⟩ = some (.pointer pr)) (go_keep)
          (first
            | (go_at_call 32; refine (unhide J1 _ ?_).mono ?_; (exact ⟨rfl, rfl, rfl, Nat.le_refl _, fun _ _ => rfl⟩); rintro e w5 ⟨p5, rfl, hp5, hb5⟩; have HB5 : Hid (Below w.heap.size w w5) := Lib.hid (below_on (Below.refl w.heap.size w) (Nat.le_refl _) hb5 rfl rfl rfl rfl); obtain ⟨d0, d1, d2, d3⟩ := unhide HCS w5 HB5.out; clear hb5)
            | (go_at_call 38; refine (unhide J2 _ ?_ _ ?_).mono ?_; (exact ⟨HB5.out.os, HB5.out.tape, HB5.out.output, HB5.out.size, HB5.out.block⟩); (exact hp5); rintro e w6 ⟨p6, rfl, hp6, hb6⟩; have HB6 : Hid (Below w.heap.size w w6) := Lib.hid (below_on HB5.out HB5.out.size hb6 rfl rfl rfl rfl); obtain ⟨e0, e1, e2, e3⟩ := unhide HCS w6 HB6.out; clear hb6))
        go_wp2_with fail
        go_ret
        exact ⟨p6, rfl, hp6, HB6.out⟩
    · rw [if_pos rfl]
      have J1 := hide fun (W : World) (h : Below w.heap.size w W) => unhide IL W pl (At_below h HL.out)
      have J2 := hide fun (W : World) (h : Below w.heap.size w W) (q : Option Addr) (hq : At W (l.put key val) q) => level_any (l.put key val) r k v q pr W hq (At_below h HR.out) hcl.out
      clear IL IR hcl hcr hc0
      go_enter Try.func32, Try.ntmps32
      go_wp2_with fail
      refine (cmp_lt key k h1 _).mono ?_
      rintro e w' ⟨rfl, rfl⟩
      clear h1
      go_wp2_with fail
      go_region_held3 (fun w' => w'.cell? ⟨g, 0, none⟩ = some (.string k) ∧ w'.cell? ⟨g, 1, none⟩ = some (.string v) ∧ w'.cell? ⟨g, 2, none⟩ = some (.pointer pl) ∧ w'.cell? ⟨g, 3, none⟩ = some (.pointer pr)) (go_keep)
        (first
          | (go_at_call 32; refine (unhide J1 _ ?_).mono ?_; (exact ⟨rfl, rfl, rfl, Nat.le_refl _, fun _ _ => rfl⟩); rintro e w5 ⟨p5, rfl, hp5, hb5⟩; have HB5 : Hid (Below w.heap.size w w5) := Lib.hid (below_on (Below.refl w.heap.size w) (Nat.le_refl _) hb5 rfl rfl rfl rfl); obtain ⟨d0, d1, d2, d3⟩ := unhide HCS w5 HB5.out; clear hb5)
          | (go_at_call 38; refine (unhide J2 _ ?_ _ ?_).mono ?_; (exact ⟨HB5.out.os, HB5.out.tape, HB5.out.output, HB5.out.size, HB5.out.block⟩); (exact hp5); rintro e w6 ⟨p6, rfl, hp6, hb6⟩; have HB6 : Hid (Below w.heap.size w w6) := Lib.hid (below_on HB5.out HB5.out.size hb6 rfl rfl rfl rfl); obtain ⟨e0, e1, e2, e3⟩ := unhide HCS w6 HB6.out; clear hb6))
      go_wp2_with fail
      go_ret
      exact ⟨p6, rfl, hp6, HB6.out⟩
end Go.Proofs.Ytiffjjophmgdlaa
