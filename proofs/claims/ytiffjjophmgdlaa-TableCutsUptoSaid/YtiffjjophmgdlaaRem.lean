/-
  Layer 11: remove; Delete, Clone.
-/
import Derived.Test.YtiffjjophmgdlaaTbl
import Derived.Test.YtiffjjophmgdlaaPlain2
namespace Go.Proofs.Ytiffjjophmgdlaa
open Go.RowKit Tb
attribute [local go_sem ↓] Go.wp_at_zero Go.wp_at_succ

theorem rem_lt (nk nv k : ByteArray) (l r : Tr) (h : lt k nk = true) : (Tr.node nk nv l r).rem k = lev (l.rem k) nk nv r := by
  conv => lhs; unfold Tr.rem
  rw [if_pos h]
theorem rem_gt (nk nv k : ByteArray) (l r : Tr) (h : lt k nk = false) (h2 : lt nk k = true) : (Tr.node nk nv l r).rem k = lev l nk nv (r.rem k) := by
  conv => lhs; unfold Tr.rem
  rw [h, if_neg (by simp), if_pos h2]
theorem rem_nl (k nv : ByteArray) (r : Tr) : (Tr.node k nv .nil r).rem k = r := by
  conv => lhs; unfold Tr.rem
  rw [lt_irrefl, if_neg (by simp), if_neg (by simp)]
theorem rem_nr (k nv lk lv : ByteArray) (ll lr : Tr) : (Tr.node k nv (.node lk lv ll lr) .nil).rem k = .node lk lv ll lr := by
  conv => lhs; unfold Tr.rem
  rw [lt_irrefl, if_neg (by simp), if_neg (by simp)]
theorem rem_both (k nv lk lv rk rv : ByteArray) (ll lr rl rr : Tr) : (Tr.node k nv (.node lk lv ll lr) (.node rk rv rl rr)).rem k = lev (.node lk lv ll lr) (Tr.node rk rv rl rr).least.1 (Tr.node rk rv rl rr).least.2 ((Tr.node rk rv rl rr).rem (Tr.node rk rv rl rr).least.1) := by
  conv => lhs; unfold Tr.rem
  rw [lt_irrefl, if_neg (by simp), if_neg (by simp)]
theorem find_lt (nk nv k : ByteArray) (l r : Tr) (h : lt k nk = true) : (Tr.node nk nv l r).find k = l.find k := by
  conv => lhs; unfold Tr.find
  rw [if_pos h]
theorem find_gt (nk nv k : ByteArray) (l r : Tr) (h : lt k nk = false) (h2 : lt nk k = true) : (Tr.node nk nv l r).find k = r.find k := by
  conv => lhs; unfold Tr.find
  rw [h, if_neg (by simp), if_pos h2]
theorem find_least (k v : ByteArray) (l r : Tr) (h : Sorted (Tr.node k v l r).ino) : ((Tr.node k v l r).find (Tr.node k v l r).least.1).isSome = true := by
  obtain ⟨rest, he⟩ := least_ino k v l r
  rw [find_of_mem (Tr.node k v l r).least.1 (Tr.node k v l r).least.2 _ h (by rw [he]; exact List.mem_cons_self ..)]
  rfl
theorem At_nil {w : World} {p : Option Addr} (h : At w .nil p) : p = none := h
set_option maxRecDepth 100000 in
set_option maxHeartbeats 8000000 in
theorem rem_any : ∀ (t : Tr) (key : ByteArray) (p : Option Addr) (w : World), At w t p → Sorted t.ino → (t.find key).isSome = true → t.cnt ≤ 1099511627776 →
    Calls Try.prog 36 #[.pointer p, .string key] w (Made w (t.rem key))
  | .nil, key, p, w, _, _, hf, _ => by cases hf
  | .node k v l r, key, p, w, h, hso, hf, hc => by
    obtain ⟨hsl, hsr, _, _⟩ := sorted_node hso
    have IL := hide fun (W : World) (p : Option Addr) (hp : At W l p) (hf : (l.find key).isSome = true) => rem_any l key p W hp hsl hf (by simp only [Tr.cnt] at hc; omega)
    have IR := hide fun (key : ByteArray) (W : World) (p : Option Addr) (hp : At W r p) (hf : (r.find key).isSome = true) => rem_any r key p W hp hsr hf (by simp only [Tr.cnt] at hc; omega)
    have hcl : Hid ((l.rem key).cnt + r.cnt + 1 ≤ 1099511627776) := Lib.hid (by have := rem_cnt l key; simp only [Tr.cnt] at hc; omega)
    have hcr : Hid (∀ key, l.cnt + (r.rem key).cnt + 1 ≤ 1099511627776) := Lib.hid (fun key => by have := rem_cnt r key; simp only [Tr.cnt] at hc; omega)
    have HSR := Lib.hid hsr
    obtain ⟨g, pl, pr, rfl, hblk, hl, hr⟩ := h
    obtain ⟨c0, c1, c2, c3, _, _⟩ := nd_cells hblk
    have hglt := hblk.lt
    have HB1 := Lib.hid hblk
    have HL := Lib.hid hl
    have HR := Lib.hid hr
    clear hl hr hblk hc hso hsl hsr
    have CS : ∀ W : World, Below w.heap.size w W → (W.cell? ⟨g, 0, none⟩ = some (.string k) ∧ W.cell? ⟨g, 1, none⟩ = some (.string v) ∧ W.cell? ⟨g, 2, none⟩ = some (.pointer pl) ∧ W.cell? ⟨g, 3, none⟩ = some (.pointer pr)) := fun W hW => by
      obtain ⟨y0, y1, y2, y3, _, _⟩ := nd_cells (HB1.out.below hW hglt)
      exact ⟨y0, y1, y2, y3⟩
    have HCS := hide CS
    clear CS
    cases h1 : lt key k
    · cases h2 : lt k key
      · obtain rfl : key = k := lt_total h1 h2
        clear h1 h2 hf IL hcl
        cases l with
        | nil =>
          obtain rfl := At_nil HL.out
          rw [rem_nl]
          clear IR hcr HCS
          go_enter Try.func36, Try.ntmps36
          go_wp2_with fail
          refine (cmp_eq key _).mono ?_
          rintro e w' ⟨rfl, rfl⟩
          go_wp2_with fail
          go_ret
          exact ⟨pr, rfl, HR.out, Below.refl _ _⟩
        | node lk lv ll lr =>
          obtain ⟨gl, _, _, rfl, _, _, _⟩ := HL.out
          cases r with
          | nil =>
            obtain rfl := At_nil HR.out
            rw [rem_nr]
            clear IR hcr HCS
            go_enter Try.func36, Try.ntmps36
            go_wp2_with fail
            refine (cmp_eq key _).mono ?_
            rintro e w' ⟨rfl, rfl⟩
            go_wp2_with fail
            go_ret
            exact ⟨_, rfl, HL.out, Below.refl _ _⟩
          | node rk rv rl rr =>
            obtain ⟨gr, _, _, rfl, _, _, _⟩ := HR.out
            rw [rem_both]
            obtain ⟨T, hT⟩ : ∃ T, Hid (Tr.node rk rv rl rr = T) := ⟨_, Lib.hid rfl⟩
            have hfl : Hid ((T.find T.least.1).isSome = true) := Lib.hid (by rw [← hT.out]; exact find_least rk rv rl rr HSR.out)
            have hTn : Hid (∃ k v l r, T = Tr.node k v l r) := Lib.hid ⟨rk, rv, rl, rr, hT.out.symm⟩
            rw [hT.out] at IR hcr HR ⊢
            go_enter Try.func36, Try.ntmps36
            go_wp2_with fail
            refine (cmp_eq key _).mono ?_
            rintro e w' ⟨rfl, rfl⟩
            go_wp2_with fail
            go_loopg [6] (T.cnt) (fun n x wr => ∃ (t' : Tr) (p' : Option Addr), x = .pointer p' ∧ t'.cnt ≤ n ∧ Hid (At wr t' p') ∧ Hid (t'.least = T.least) ∧ Hid (∃ k v l r, t' = Tr.node k v l r) ∧ Hid (wr = w))
            case atStart => exact ⟨T, _, rfl, Nat.le_refl _, HR, Lib.hid rfl, hTn, Lib.hid rfl⟩
            case round =>
              obtain ⟨t', p', rfl, hn, hA, hF, hN, hwr⟩ := hrel
              obtain rfl := hwr.out
              clear hwr
              obtain ⟨k2, v2, l2, r2, rfl⟩ := hN.out
              obtain ⟨g2, pl2, pr2, rfl, hblk, hl, hr⟩ := hA.out
              obtain ⟨x0, x1, x2, x3, _, _⟩ := nd_cells hblk
              have hg2 := hblk.lt
              have HB2 := Lib.hid hblk
              have hHL := Lib.hid hl
              have hcn : l2.cnt + r2.cnt + 1 ≤ gk := hn
              clear hl hr hblk hn hA hN
              cases l2 with
              | nil =>
                obtain rfl := At_nil hHL.out
                have hle : Hid (T.least = (k2, v2)) := Lib.hid (by rw [← hF.out]; rfl)
                rw [hle.out] at hfl
                have J1 := hide fun (W : World) (h : Below wr.heap.size wr W) => unhide IR k2 W _ (At_below h HR.out) hfl.out
                have J2 := hide fun (W : World) (h : Below wr.heap.size wr W) (q : Option Addr) (hq : At W (T.rem k2) q) => level_any (.node lk lv ll lr) (T.rem k2) k2 v2 _ q W (At_below h HL.out) hq (hcr.out k2)
                have CS2 := hide fun (W : World) (hW : Below wr.heap.size wr W) => (show (W.cell? ⟨g2, 0, none⟩ = some (.string k2) ∧ W.cell? ⟨g2, 1, none⟩ = some (.string v2)) from by
                  obtain ⟨y0, y1, _, _, _, _⟩ := nd_cells (HB2.out.below hW hg2)
                  exact ⟨y0, y1⟩)
                clear hF hHL hcn hcr hfl IR
                go_wp2_with fail
                go_region_held3 (fun w' => w'.cell? ⟨g, 0, none⟩ = some (.string key) ∧ w'.cell? ⟨g, 1, none⟩ = some (.string v) ∧ w'.cell? ⟨g, 2, none⟩ = some (.pointer (some ⟨gl, 0, none⟩)) ∧ w'.cell? ⟨g, 3, none⟩ = some (.pointer (some ⟨gr, 0, none⟩)) ∧ w'.cell? ⟨g2, 0, none⟩ = some (.string k2) ∧ w'.cell? ⟨g2, 1, none⟩ = some (.string v2)) (go_keep)
                  (first
                    | (go_at_call 36; refine (unhide J1 _ ?_).mono ?_; (exact ⟨rfl, rfl, rfl, Nat.le_refl _, fun _ _ => rfl⟩); rintro e w5 ⟨p5, rfl, hp5, hb5⟩; have HB5 : Hid (Below wr.heap.size wr w5) := Lib.hid (below_on (Below.refl wr.heap.size wr) (Nat.le_refl _) hb5 rfl rfl rfl rfl); obtain ⟨d0, d1, d2, d3⟩ := unhide HCS w5 HB5.out; obtain ⟨u0, u1⟩ := unhide CS2 w5 HB5.out; clear hb5)
                    | (go_at_call 38; refine (unhide J2 _ ?_ _ ?_).mono ?_; (exact ⟨HB5.out.os, HB5.out.tape, HB5.out.output, HB5.out.size, HB5.out.block⟩); (exact hp5); rintro e w6 ⟨p6, rfl, hp6, hb6⟩; have HB6 : Hid (Below wr.heap.size wr w6) := Lib.hid (below_on HB5.out HB5.out.size hb6 rfl rfl rfl rfl); obtain ⟨e0, e1, e2, e3⟩ := unhide HCS w6 HB6.out; obtain ⟨z0, z1⟩ := unhide CS2 w6 HB6.out; clear hb6))
                go_wp2_with fail
                go_ret
                exact ⟨p6, rfl, by rw [hle.out]; exact hp6, HB6.out⟩
              | node k3 v3 l3 r3 =>
                obtain ⟨g3, _, _, rfl, _, _, _⟩ := hHL.out
                have hle : Hid ((Tr.node k3 v3 l3 r3).least = T.least) := Lib.hid hF.out
                have hn3 : Hid (∃ k v l r, Tr.node k3 v3 l3 r3 = Tr.node k v l r) := Lib.hid ⟨_, _, _, _, rfl⟩
                obtain ⟨M, hM⟩ : ∃ M, Hid (Tr.node k3 v3 l3 r3 = M) := ⟨_, Lib.hid rfl⟩
                rw [hM.out] at hle hn3 hHL hcn
                clear hF IR hcr hfl HB2
                go_wp2_with fail
                go_roundg M.cnt
                case measure => omega
                case rel => exact ⟨M, _, rfl, Nat.le_refl _, hHL, hle, hn3, Lib.hid rfl⟩
      · rw [rem_gt _ _ _ _ _ h1 h2]
        rw [find_gt _ _ _ _ _ h1 h2] at hf
        have J1 := hide fun (W : World) (h : Below w.heap.size w W) => unhide IR key W pr (At_below h HR.out) hf
        have J2 := hide fun (W : World) (h : Below w.heap.size w W) (q : Option Addr) (hq : At W (r.rem key) q) => level_any l (r.rem key) k v pl q W (At_below h HL.out) hq (hcr.out key)
        clear IL IR hcl hcr hf
        go_enter Try.func36, Try.ntmps36
        go_wp2_with fail
        refine (cmp_gt key k h2 _).mono ?_
        rintro e w' ⟨rfl, rfl⟩
        clear h1 h2
        go_wp2_with fail
        go_region_held3 (fun w' => w'.cell? ⟨g, 0, none⟩ = some (.string k) ∧ w'.cell? ⟨g, 1, none⟩ = some (.string v) ∧ w'.cell? ⟨g, 2, none⟩ = some (.pointer pl) ∧ w'.cell? ⟨g, 3, none⟩ = some (.pointer pr)) (go_keep)
          (first
            | (go_at_call 36; refine (unhide J1 _ ?_).mono ?_; (exact ⟨rfl, rfl, rfl, Nat.le_refl _, fun _ _ => rfl⟩); rintro e w5 ⟨p5, rfl, hp5, hb5⟩; have HB5 : Hid (Below w.heap.size w w5) := Lib.hid (below_on (Below.refl w.heap.size w) (Nat.le_refl _) hb5 rfl rfl rfl rfl); obtain ⟨d0, d1, d2, d3⟩ := unhide HCS w5 HB5.out; clear hb5)
            | (go_at_call 38; refine (unhide J2 _ ?_ _ ?_).mono ?_; (exact ⟨HB5.out.os, HB5.out.tape, HB5.out.output, HB5.out.size, HB5.out.block⟩); (exact hp5); rintro e w6 ⟨p6, rfl, hp6, hb6⟩; have HB6 : Hid (Below w.heap.size w w6) := Lib.hid (below_on HB5.out HB5.out.size hb6 rfl rfl rfl rfl); obtain ⟨e0, e1, e2, e3⟩ := unhide HCS w6 HB6.out; clear hb6))
        go_wp2_with fail
        go_ret
        exact ⟨p6, rfl, hp6, HB6.out⟩
    · rw [rem_lt _ _ _ _ _ h1]
      rw [find_lt _ _ _ _ _ h1] at hf
      have J1 := hide fun (W : World) (h : Below w.heap.size w W) => unhide IL W pl (At_below h HL.out) hf
      have J2 := hide fun (W : World) (h : Below w.heap.size w W) (q : Option Addr) (hq : At W (l.rem key) q) => level_any (l.rem key) r k v q pr W hq (At_below h HR.out) hcl.out
      clear IL IR hcl hcr hf
      go_enter Try.func36, Try.ntmps36
      go_wp2_with fail
      refine (cmp_lt key k h1 _).mono ?_
      rintro e w' ⟨rfl, rfl⟩
      clear h1
      go_wp2_with fail
      go_region_held3 (fun w' => w'.cell? ⟨g, 0, none⟩ = some (.string k) ∧ w'.cell? ⟨g, 1, none⟩ = some (.string v) ∧ w'.cell? ⟨g, 2, none⟩ = some (.pointer pl) ∧ w'.cell? ⟨g, 3, none⟩ = some (.pointer pr)) (go_keep)
        (first
          | (go_at_call 36; refine (unhide J1 _ ?_).mono ?_; (exact ⟨rfl, rfl, rfl, Nat.le_refl _, fun _ _ => rfl⟩); rintro e w5 ⟨p5, rfl, hp5, hb5⟩; have HB5 : Hid (Below w.heap.size w w5) := Lib.hid (below_on (Below.refl w.heap.size w) (Nat.le_refl _) hb5 rfl rfl rfl rfl); obtain ⟨d0, d1, d2, d3⟩ := unhide HCS w5 HB5.out; clear hb5)
          | (go_at_call 38; refine (unhide J2 _ ?_ _ ?_).mono ?_; (exact ⟨HB5.out.os, HB5.out.tape, HB5.out.output, HB5.out.size, HB5.out.block⟩); (exact hp5); rintro e w6 ⟨p6, rfl, hp6, hb6⟩; have HB6 : Hid (Below w.heap.size w w6) := Lib.hid (below_on HB5.out HB5.out.size hb6 rfl rfl rfl rfl); obtain ⟨e0, e1, e2, e3⟩ := unhide HCS w6 HB6.out; clear hb6))
      go_wp2_with fail
      go_ret
      exact ⟨p6, rfl, hp6, HB6.out⟩
end Go.Proofs.Ytiffjjophmgdlaa
