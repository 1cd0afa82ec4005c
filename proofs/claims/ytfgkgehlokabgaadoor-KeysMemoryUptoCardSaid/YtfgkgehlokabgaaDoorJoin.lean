/-
  Walks over layer 2: Text, Number, Join.
-/
import Derived.Test.YtfgkgehlokabgaaDoorOwn
import Derived.Test.YtfgkgehlokabgaaDoorPlain2
import Derived.WalkSpells
import Derived.WalkLawsBesides
import Derived.BigQuiet
import Derived.Deep.LoopGhost
namespace Go.Proofs.YtfgkgehlokabgaaDoor
open Go.RowKit

/-- A part as it lies in memory. -/
structure PV where
  num : Bool
  n : Int
  s : ByteArray
def PV.toP (p : PV) : Ky.Part := ⟨p.num, p.n, p.s.data.toList⟩
structure PV.Ok (p : PV) : Prop where
  lo : -9223372036854775808 ≤ p.n
  hi : p.n ≤ 9223372036854775807
  sz : p.s.size ≤ 1099511627776
theorem PV.Ok.fine {p : PV} (h : p.Ok) : Ky.fine p.toP := fun _ => ⟨h.lo, h.hi⟩
/-- The slice reads as the parts L 0, .., L (n - 1), and lies below block B. -/
def SliceIs (w : World) (B : Nat) (ad : Option Addr) (n : Nat) (L : Nat → PV) : Prop :=
  0 < n → ∃ b off, ad = some ⟨b, off, none⟩ ∧ b < B ∧ ∀ i, i < n → w.cell? ⟨b, off + i * 3, none⟩ = some (.bool (L i).num) ∧ w.cell? ⟨b, off + i * 3 + 1, none⟩ = some (.int .i64 (L i).n) ∧ w.cell? ⟨b, off + i * 3 + 2, none⟩ = some (.string (L i).s)
theorem SliceIs.below {w w' : World} {B B' : Nat} {ad : Option Addr} {n : Nat} {L : Nat → PV} (h : SliceIs w B ad n L) (hb : Below B' w w') (hB : B ≤ B') : SliceIs w' B ad n L := fun hn => by
  obtain ⟨b, off, e, hlt, hc⟩ := h hn
  refine ⟨b, off, e, hlt, fun i hi => ?_⟩
  obtain ⟨h0, h1, h2⟩ := hc i hi
  exact ⟨(hb.cell (p := ⟨b, off + i * 3, none⟩) (by show b < B'; omega)).trans h0, (hb.cell (p := ⟨b, off + i * 3 + 1, none⟩) (by show b < B'; omega)).trans h1, (hb.cell (p := ⟨b, off + i * 3 + 2, none⟩) (by show b < B'; omega)).trans h2⟩
def lst (L : Nat → PV) (n : Nat) : List Ky.Part := (List.range n).map fun i => (L i).toP
theorem lst_succ (L : Nat → PV) (n : Nat) : lst L (n + 1) = lst L n ++ [(L n).toP] := by simp [lst, List.range_succ]
/-- The key of the first k parts. -/
def ks (L : Nat → PV) (k : Nat) : List UInt8 := Ky.key (lst L k)
theorem ks_succ (L : Nat → PV) (k : Nat) : ks L (k + 1) = ks L k ++ Ky.form (L k).toP := by
  unfold ks
  rw [lst_succ, Ky.key_append]
  simp [Ky.key]
theorem ks_le (L : Nat → PV) {k n : Nat} (h : k ≤ n) : (ks L k).length ≤ (ks L n).length := by
  induction n with
  | zero => obtain rfl : k = 0 := by omega
            exact Nat.le_refl _
  | succ n ih =>
    rcases Nat.lt_or_ge k (n + 1) with h' | h'
    · rw [ks_succ, List.length_append]
      have := ih (by omega)
      omega
    · obtain rfl : k = n + 1 := by omega
      exact Nat.le_refl _
theorem esc_snoc (t : List UInt8) (c : UInt8) : Ky.esc (t ++ [c]) = Ky.esc t ++ (if c = 0 then [0, 255] else [c]) := by
  induction t with
  | nil => by_cases h : c = 0 <;> simp [Ky.esc, h]
  | cons d t ih => by_cases h : d = 0 <;> simp [Ky.esc, h, ih]
theorem esc_le (t : List UInt8) : (Ky.esc t).length ≤ 2 * t.length := by
  induction t with
  | nil => simp [Ky.esc]
  | cons d t ih =>
    by_cases h : d = 0
    · simp [Ky.esc, h]; omega
    · simp [Ky.esc, h]; omega
theorem take_snoc (s : ByteArray) (k : Nat) (h : k < s.size) : s.data.toList.take (k + 1) = s.data.toList.take k ++ [s[k]] := by
  rw [List.take_succ_eq_append_getElem (by simpa using h)]; rfl
/-- Byte j of eight, the highest first. -/
def bt (u j : Nat) : UInt8 := UInt8.ofNat (u / 256 ^ (7 - j) % 256)
theorem bt_val (u j : Nat) : ((bt u j).toNat : Int) = (u : Int) / 256 ^ (7 - j) % 256 := by
  unfold bt
  rw [UInt8.toNat_ofNat_of_lt' (show u / 256 ^ (7 - j) % 256 < 256 from Nat.mod_lt _ (by omega)), Int.natCast_emod, Int.natCast_ediv, Int.natCast_pow]
  rfl
theorem be_get (k : Nat) : ∀ (u j : Nat), u < 256 ^ k → j < k → (Ky.be k u)[j]? = some (UInt8.ofNat (u / 256 ^ (k - 1 - j) % 256)) := by
  induction k with
  | zero => intro u j _ h; omega
  | succ k ih =>
    intro u j hu hj
    have hp : 0 < 256 ^ k := Nat.pow_pos (by omega)
    cases j with
    | zero =>
      have : u / 256 ^ k < 256 := Nat.div_lt_of_lt_mul (by rw [Nat.pow_succ] at hu; exact hu)
      simp [Ky.be, Nat.mod_eq_of_lt this]
    | succ j =>
      simp only [Ky.be, List.getElem?_cons_succ]
      rw [ih (u % 256 ^ k) j (Nat.mod_lt _ hp) (by omega)]
      have e : k + 1 - 1 - (j + 1) = k - 1 - j := by omega
      rw [e]
      have e2 : (256 : Nat) ^ k = 256 ^ (k - 1 - j) * (256 * 256 ^ j) := by rw [← Nat.pow_succ', ← Nat.pow_add]; congr 1; omega
      rw [e2, Nat.mod_mul_right_div_self, Nat.mod_mul_right_mod]
theorem be_take (u j : Nat) (hu : u < 18446744073709551616) (hj : j < 8) : (Ky.be 8 u).take (j + 1) = (Ky.be 8 u).take j ++ [bt u j] := by
  rw [List.take_add_one, be_get 8 u j (by omega) hj]
  rfl
theorem top_wrap (n : Int) (h1 : -9223372036854775808 ≤ n) (h2 : n ≤ 9223372036854775807) : ∃ u : Nat, IntKind.u64.wrap (IntKind.u64.wrap n + 9223372036854775808) = (u : Int) ∧ u = Ky.top n ∧ u < 18446744073709551616 :=
  ⟨Ky.top n, by rw [IntKind.wrap_u64, IntKind.wrap_u64]; unfold Ky.top; omega, rfl, by unfold Ky.top; omega⟩

theorem part_cells {w : World} {g : Nat} {x y z : Value} {t : TypeId} (h : Blk w g t #[x, y, z]) : w.cell? ⟨g, 0, none⟩ = some x ∧ w.cell? ⟨g, 1, none⟩ = some y ∧ w.cell? ⟨g, 2, none⟩ = some z := ⟨h.at_ 0, h.at_ 1, h.at_ 2⟩
theorem form_text (m : Int) (s : ByteArray) : Ky.form (PV.toP ⟨false, m, s⟩) = 2 :: (Ky.esc s.data.toList ++ [0, 1]) := rfl
theorem form_num (m : Int) (s : ByteArray) : Ky.form (PV.toP ⟨true, m, s⟩) = 1 :: Ky.be 8 (Ky.top m) := rfl
theorem size_toList (s : ByteArray) : s.data.toList.length = s.size := by simp
set_option maxRecDepth 100000 in
set_option maxHeartbeats 8000000 in
theorem join_any (ad : Option Addr) (n cap : Nat) (L : Nat → PV) (hn : n ≤ 1099511627776) (hOk : ∀ i, i < n → (L i).Ok) (hlen : (ks L n).length ≤ 1099511627776) (w : World) (hA : SliceIs w w.heap.size ad n L) :
    Calls Tryd.prog 8 #[.slice ad n cap] w fun e w' => e = .returned (.string ⟨(ks L n).toArray⟩) ∧ Below w.heap.size w w' := by
  have HA := Lib.hid hA
  have HOk := hide hOk
  have HL := Lib.hid hlen
  clear hA hOk hlen
  go_enter Tryd.func8, Tryd.ntmps8
  go_wp2_with fail
  go_loopw [3, 10] (fun v i wr => ∃ k : Nat, k ≤ n ∧ i = .int .i64 k ∧ Hid (Own8 wr w.heap.size v (ks L k)) ∧ Hid (Below w.heap.size w wr)) (fun _ i _ => n - (intOf i).toNat)
  case atStart => exact ⟨0, by omega, rfl, Lib.hid (Own8.nil _ _), Lib.hid (Below.refl _ _)⟩
  case round =>
    obtain ⟨k, hk, rfl, hown, HB⟩ := hrel
    by_cases hkn : k < n
    · have hkn2 : (k : Int) < (n : Int) := by omega
      obtain ⟨b, off, rfl, hblt, hcs⟩ := HA.out.below HB.out (Nat.le_refl _) (by omega)
      obtain ⟨c0, c1, c2⟩ := hcs k hkn
      have hok := Lib.hid (unhide HOk k hkn)
      have hkl := Lib.hid (ks_le L hk)
      have hfin := Lib.hid (ks_succ L k)
      obtain ⟨p, hp⟩ : ∃ p, Hid (L k = p) := ⟨_, Lib.hid rfl⟩
      rw [hp.out] at c0 c1 c2 hok hfin
      obtain ⟨num, m, s⟩ := p
      have hB0 : Hid (w.heap.size ≤ wr.heap.size) := Lib.hid HB.out.size
      clear hcs hblt
      dsimp only at c0 c1 c2
      obtain ⟨wo, rfl⟩ : ∃ wo : World, wo = wr := ⟨_, rfl⟩
      have hP := Lib.hid (Blk.new wo #[.bool num, .int .i64 m, .string s] 39)
      have hown2 := Lib.hid (hown.out.alloc (.cells #[.bool num, .int .i64 m, .string s] 39))
      have HB2 := Lib.hid (HB.out.alloc hB0.out (.cells #[.bool num, .int .i64 m, .string s] 39))
      have hsz := hok.out.sz
      dsimp only at hsz
      cases num
      · go_wp2_with (at_builtin; refine wpList_app8 rfl _ _ rfl w.heap.size _ _ [2] _ _ (by rfl) hown2.out _ (by rfl) (by simp) (by rfl) (by have := hkl.out; have := HL.out; simp only [List.length_cons, List.length_nil]; omega) (by have := hB0.out; simp; omega) ?_; intro v1 w1 h1 g1; have hP1 := Lib.hid (g1.out.blk _ _ _ (by decide) hP.out); obtain ⟨d0, d1, d2⟩ := part_cells hP1.out)
        have HB3 := Lib.hid (g1.out.below _ HB2.out)
        clear g1 hP hown hown2 HB HB2 c0 c1 c2 d0 d1 d2
        go_loopw [3, 39] (fun v i wr => ∃ i0 : Nat, i0 ≤ s.size ∧ i = .int .i64 i0 ∧ Hid (Own8 wr w.heap.size v (ks L k ++ [2] ++ Ky.esc (s.data.toList.take i0))) ∧ Hid (Blk wr wo.heap.size 39 #[.bool false, .int .i64 m, .string s]) ∧ Hid (Below w.heap.size w wr)) (fun _ i _ => s.size - (intOf i).toNat)
        case atStart => exact ⟨0, by omega, rfl, by rw [List.take_zero]; simpa [Ky.esc] using h1, hP1, HB3⟩
        case round =>
          obtain ⟨i0, hi0, rfl, hwn, hPr, HBr⟩ := hrel
          have hB1 : Hid (w.heap.size ≤ wr.heap.size) := Lib.hid HBr.out.size
          obtain ⟨d0, d1, d2⟩ := part_cells hPr.out
          have he := Lib.hid (esc_le (s.data.toList.take i0))
          have hbd : Hid ((ks L k ++ [2] ++ Ky.esc (s.data.toList.take i0)).length ≤ 4398046511104) := by
            have h1 := hkl.out
            have h2 := HL.out
            have h3 := he.out
            have h4 := size_toList s
            rw [List.length_take] at h3
            refine Lib.hid ?_
            simp only [List.length_append, List.length_cons, List.length_nil]
            omega
          clear h1 hP1 HB3
          by_cases hi : i0 < s.size
          · have hi2 : (i0 : Int) < (s.size : Int) := by omega
            have hsn := Lib.hid (take_snoc s i0 hi)
            have hes := Lib.hid (esc_snoc (s.data.toList.take i0) (s[i0]'hi))
            obtain ⟨c, hc⟩ : ∃ c : UInt8, Hid (s[i0]'hi = c) := ⟨_, Lib.hid rfl⟩
            by_cases hz : c = 0
            · subst hz
              have hcv : ((s[i0]'hi).toNat : Int) = 0 := by rw [hc.out]; rfl
              go_wp2_with (first
                | (at_builtin; refine wpList_app8 rfl _ _ rfl w.heap.size _ _ [255] _ _ (by rfl) h2.out _ (by rfl) (by first | rfl | simp) (by rfl) (by have := hbd.out; simp only [List.length_append, List.length_cons, List.length_nil] at *; omega) (by have := hB1.out; have := g2.out.size; omega) ?_; intro v3 w3 h3 g3; have hP3 := Lib.hid (g3.out.blk _ _ _ (by decide) hP2.out))
                | (at_builtin; refine wpList_app8 rfl _ _ rfl w.heap.size _ _ [0] _ _ (by rfl) hwn.out _ (by rfl) (by first | rfl | simp) (by rfl) (by have := hbd.out; simp only [List.length_cons, List.length_nil]; omega) (by have := hB1.out; omega) ?_; intro v2 w2 h2 g2; have hP2 := Lib.hid (g2.out.blk _ _ _ (by decide) hPr.out); obtain ⟨e0, e1, e2⟩ := part_cells hP2.out))
              have HB4 := Lib.hid (g3.out.below _ (g2.out.below _ HBr.out))
              have h4 : Hid (Own8 w3 w.heap.size v3 (ks L k ++ [2] ++ Ky.esc (s.data.toList.take (i0 + 1)))) := by
                have := h3.out
                rw [hsn.out, esc_snoc, hc.out, if_pos rfl]
                simp only [List.append_assoc, List.cons_append, List.nil_append] at this ⊢
                exact Lib.hid this
              go_roundw
              case rel => exact ⟨i0 + 1, by omega, by go_num, h4, hP3, HB4⟩
              case measure => simp [intOf]; omega
            · have hcn : (((s[i0]'hi).toNat : Int) == 0) = false := beq_eq_false_iff_ne.2 fun e => hz (UInt8.toNat_inj.1 (by rw [hc.out] at e; show c.toNat = 0; omega))
              go_wp2_with (at_builtin; refine wpList_app8 rfl _ _ rfl w.heap.size _ _ [s[i0]'hi] _ _ (by rfl) hwn.out _ (by rfl) (by simp) (by rfl) (by have := hbd.out; simp only [List.length_cons, List.length_nil]; omega) (by have := hB1.out; omega) ?_; intro v2 w2 h2 g2; have hP2 := Lib.hid (g2.out.blk _ _ _ (by decide) hPr.out); obtain ⟨e0, e1, e2⟩ := part_cells hP2.out)
              have HB4 := Lib.hid (g2.out.below _ HBr.out)
              have h3 : Hid (Own8 w2 w.heap.size v2 (ks L k ++ [2] ++ Ky.esc (s.data.toList.take (i0 + 1)))) := by
                have := h2.out
                rw [hc.out] at this
                rw [hsn.out, esc_snoc, hc.out, if_neg hz]
                rw [List.append_assoc] at this
                exact Lib.hid this
              go_roundw
              case rel => exact ⟨i0 + 1, by omega, by go_num, h3, hP2, HB4⟩
              case measure => simp [intOf]; omega
          · have hi2 : ¬ (i0 : Int) < (s.size : Int) := by omega
            obtain rfl : i0 = s.size := by omega
            go_wp2_with (at_builtin; refine wpList_app8 rfl _ _ rfl w.heap.size _ _ [0, 1] _ _ (by rfl) hwn.out _ (by rfl) (by first | rfl | simp) (by rfl) (by have := hbd.out; simp only [List.length_cons, List.length_nil]; omega) (by have := hB1.out; omega) ?_; intro v2 w2 h2 g2)
            have HB4 := Lib.hid (g2.out.below _ HBr.out)
            have h3 : Hid (Own8 w2 w.heap.size v2 (ks L (k + 1))) := by
              have := h2.out
              rw [hfin.out, form_text]
              rw [← size_toList s, List.take_length] at this
              simp only [List.append_assoc, List.cons_append, List.nil_append] at this ⊢
              exact Lib.hid this
            go_roundw
            case rel => exact ⟨k + 1, by omega, by go_num, h3, HB4⟩
            case measure => simp [intOf]; omega
      · obtain ⟨u, hu, hut, hul⟩ := top_wrap m hok.out.lo hok.out.hi
        have HU := Lib.hid hut
        have HUL := Lib.hid hul
        clear hut hul
        go_wp2_with (at_builtin; refine wpList_app8 rfl _ _ rfl w.heap.size _ _ [1] _ _ (by rfl) hown2.out _ (by rfl) (by simp) (by rfl) (by have := hkl.out; have := HL.out; simp only [List.length_cons, List.length_nil]; omega) (by have := hB0.out; simp; omega) ?_; intro v1 w1 h1 g1; have hP1 := Lib.hid (g1.out.blk _ _ _ (by decide) hP.out); obtain ⟨d0, d1, d2⟩ := part_cells hP1.out)
        have HB3 := Lib.hid (g1.out.below _ HB2.out)
        clear g1 hP hown hown2 HB HB2 c0 c1 c2 d0 d1 d2
        go_loopw [3, 6] (fun v i wr => ∃ (j : Nat) (z : Int), j ≤ 8 ∧ z + 8 * j = 56 ∧ i = .int .i64 z ∧ Hid (Own8 wr w.heap.size v (ks L k ++ [1] ++ (Ky.be 8 u).take j)) ∧ Hid (Blk wr wo.heap.size 39 #[.bool true, .int .i64 m, .string s]) ∧ Hid (Below w.heap.size w wr)) (fun _ i _ => (intOf i + 8).toNat)
        case atStart => exact ⟨0, 56, by omega, by omega, rfl, by simpa using h1, hP1, HB3⟩
        case round =>
          obtain ⟨j, z, hj, hz, rfl, hwn, hPr, HBr⟩ := hrel
          have hB1 : Hid (w.heap.size ≤ wr.heap.size) := Lib.hid HBr.out.size
          obtain ⟨d0, d1, d2⟩ := part_cells hPr.out
          have hbd : Hid ((ks L k ++ [1] ++ (Ky.be 8 u).take j).length ≤ 4398046511104) := by
            have h1 := hkl.out
            have h2 := HL.out
            refine Lib.hid ?_
            simp only [List.length_append, List.length_cons, List.length_nil, List.length_take]
            omega
          clear h1 hP1 HB3
          by_cases hj8 : j < 8
          · have hbt := bt_val u j
            have hbs := Lib.hid (be_take u j HUL.out hj8)
            rcases (by omega : j = 0 ∨ j = 1 ∨ j = 2 ∨ j = 3 ∨ j = 4 ∨ j = 5 ∨ j = 6 ∨ j = 7) with rfl | rfl | rfl | rfl | rfl | rfl | rfl | rfl
            all_goals
              have hbh := Lib.hid hbt
              clear hbt
            · obtain rfl : z = 56 := by omega
              go_wp2_with (at_builtin; refine wpList_app8 rfl _ _ rfl w.heap.size _ _ [bt u 0] _ _ (by rfl) hwn.out _ (by rfl) (by first | rfl | simp) (by have := hbh.out; exact congrArg (fun t : Int => #[Value.int .u8 t]) (by omega)) (by have := hbd.out; simp only [List.length_cons, List.length_nil]; omega) (by have := hB1.out; omega) ?_; intro v2 w2 h2 g2; have hP2 := Lib.hid (g2.out.blk _ _ _ (by decide) hPr.out))
              have HB4 := Lib.hid (g2.out.below _ HBr.out)
              have h3 : Hid (Own8 w2 w.heap.size v2 (ks L k ++ [1] ++ (Ky.be 8 u).take (0 + 1))) := by
                have := h2.out
                rw [hbs.out, ← List.append_assoc]
                exact Lib.hid this
              go_roundw
              case rel => exact ⟨1, 48, by omega, by omega, rfl, h3, hP2, HB4⟩
              case measure => simp [intOf]
            · obtain rfl : z = 48 := by omega
              go_wp2_with (at_builtin; refine wpList_app8 rfl _ _ rfl w.heap.size _ _ [bt u 1] _ _ (by rfl) hwn.out _ (by rfl) (by first | rfl | simp) (by have := hbh.out; exact congrArg (fun t : Int => #[Value.int .u8 t]) (by omega)) (by have := hbd.out; simp only [List.length_cons, List.length_nil]; omega) (by have := hB1.out; omega) ?_; intro v2 w2 h2 g2; have hP2 := Lib.hid (g2.out.blk _ _ _ (by decide) hPr.out))
              have HB4 := Lib.hid (g2.out.below _ HBr.out)
              have h3 : Hid (Own8 w2 w.heap.size v2 (ks L k ++ [1] ++ (Ky.be 8 u).take (1 + 1))) := by
                have := h2.out
                rw [hbs.out, ← List.append_assoc]
                exact Lib.hid this
              go_roundw
              case rel => exact ⟨2, 40, by omega, by omega, rfl, h3, hP2, HB4⟩
              case measure => simp [intOf]
            · obtain rfl : z = 40 := by omega
              go_wp2_with (at_builtin; refine wpList_app8 rfl _ _ rfl w.heap.size _ _ [bt u 2] _ _ (by rfl) hwn.out _ (by rfl) (by first | rfl | simp) (by have := hbh.out; exact congrArg (fun t : Int => #[Value.int .u8 t]) (by omega)) (by have := hbd.out; simp only [List.length_cons, List.length_nil]; omega) (by have := hB1.out; omega) ?_; intro v2 w2 h2 g2; have hP2 := Lib.hid (g2.out.blk _ _ _ (by decide) hPr.out))
              have HB4 := Lib.hid (g2.out.below _ HBr.out)
              have h3 : Hid (Own8 w2 w.heap.size v2 (ks L k ++ [1] ++ (Ky.be 8 u).take (2 + 1))) := by
                have := h2.out
                rw [hbs.out, ← List.append_assoc]
                exact Lib.hid this
              go_roundw
              case rel => exact ⟨3, 32, by omega, by omega, rfl, h3, hP2, HB4⟩
              case measure => simp [intOf]
            · obtain rfl : z = 32 := by omega
              go_wp2_with (at_builtin; refine wpList_app8 rfl _ _ rfl w.heap.size _ _ [bt u 3] _ _ (by rfl) hwn.out _ (by rfl) (by first | rfl | simp) (by have := hbh.out; exact congrArg (fun t : Int => #[Value.int .u8 t]) (by omega)) (by have := hbd.out; simp only [List.length_cons, List.length_nil]; omega) (by have := hB1.out; omega) ?_; intro v2 w2 h2 g2; have hP2 := Lib.hid (g2.out.blk _ _ _ (by decide) hPr.out))
              have HB4 := Lib.hid (g2.out.below _ HBr.out)
              have h3 : Hid (Own8 w2 w.heap.size v2 (ks L k ++ [1] ++ (Ky.be 8 u).take (3 + 1))) := by
                have := h2.out
                rw [hbs.out, ← List.append_assoc]
                exact Lib.hid this
              go_roundw
              case rel => exact ⟨4, 24, by omega, by omega, rfl, h3, hP2, HB4⟩
              case measure => simp [intOf]
            · obtain rfl : z = 24 := by omega
              go_wp2_with (at_builtin; refine wpList_app8 rfl _ _ rfl w.heap.size _ _ [bt u 4] _ _ (by rfl) hwn.out _ (by rfl) (by first | rfl | simp) (by have := hbh.out; exact congrArg (fun t : Int => #[Value.int .u8 t]) (by omega)) (by have := hbd.out; simp only [List.length_cons, List.length_nil]; omega) (by have := hB1.out; omega) ?_; intro v2 w2 h2 g2; have hP2 := Lib.hid (g2.out.blk _ _ _ (by decide) hPr.out))
              have HB4 := Lib.hid (g2.out.below _ HBr.out)
              have h3 : Hid (Own8 w2 w.heap.size v2 (ks L k ++ [1] ++ (Ky.be 8 u).take (4 + 1))) := by
                have := h2.out
                rw [hbs.out, ← List.append_assoc]
                exact Lib.hid this
              go_roundw
              case rel => exact ⟨5, 16, by omega, by omega, rfl, h3, hP2, HB4⟩
              case measure => simp [intOf]
            · obtain rfl : z = 16 := by omega
              go_wp2_with (at_builtin; refine wpList_app8 rfl _ _ rfl w.heap.size _ _ [bt u 5] _ _ (by rfl) hwn.out _ (by rfl) (by first | rfl | simp) (by have := hbh.out; exact congrArg (fun t : Int => #[Value.int .u8 t]) (by omega)) (by have := hbd.out; simp only [List.length_cons, List.length_nil]; omega) (by have := hB1.out; omega) ?_; intro v2 w2 h2 g2; have hP2 := Lib.hid (g2.out.blk _ _ _ (by decide) hPr.out))
              have HB4 := Lib.hid (g2.out.below _ HBr.out)
              have h3 : Hid (Own8 w2 w.heap.size v2 (ks L k ++ [1] ++ (Ky.be 8 u).take (5 + 1))) := by
                have := h2.out
                rw [hbs.out, ← List.append_assoc]
                exact Lib.hid this
              go_roundw
              case rel => exact ⟨6, 8, by omega, by omega, rfl, h3, hP2, HB4⟩
              case measure => simp [intOf]
            · obtain rfl : z = 8 := by omega
              go_wp2_with (at_builtin; refine wpList_app8 rfl _ _ rfl w.heap.size _ _ [bt u 6] _ _ (by rfl) hwn.out _ (by rfl) (by first | rfl | simp) (by have := hbh.out; exact congrArg (fun t : Int => #[Value.int .u8 t]) (by omega)) (by have := hbd.out; simp only [List.length_cons, List.length_nil]; omega) (by have := hB1.out; omega) ?_; intro v2 w2 h2 g2; have hP2 := Lib.hid (g2.out.blk _ _ _ (by decide) hPr.out))
              have HB4 := Lib.hid (g2.out.below _ HBr.out)
              have h3 : Hid (Own8 w2 w.heap.size v2 (ks L k ++ [1] ++ (Ky.be 8 u).take (6 + 1))) := by
                have := h2.out
                rw [hbs.out, ← List.append_assoc]
                exact Lib.hid this
              go_roundw
              case rel => exact ⟨7, 0, by omega, by omega, rfl, h3, hP2, HB4⟩
              case measure => simp [intOf]
            · obtain rfl : z = 0 := by omega
              go_wp2_with (at_builtin; refine wpList_app8 rfl _ _ rfl w.heap.size _ _ [bt u 7] _ _ (by rfl) hwn.out _ (by rfl) (by first | rfl | simp) (by have := hbh.out; exact congrArg (fun t : Int => #[Value.int .u8 t]) (by omega)) (by have := hbd.out; simp only [List.length_cons, List.length_nil]; omega) (by have := hB1.out; omega) ?_; intro v2 w2 h2 g2; have hP2 := Lib.hid (g2.out.blk _ _ _ (by decide) hPr.out))
              have HB4 := Lib.hid (g2.out.below _ HBr.out)
              have h3 : Hid (Own8 w2 w.heap.size v2 (ks L k ++ [1] ++ (Ky.be 8 u).take (7 + 1))) := by
                have := h2.out
                rw [hbs.out, ← List.append_assoc]
                exact Lib.hid this
              go_roundw
              case rel => exact ⟨8, -8, by omega, by omega, rfl, h3, hP2, HB4⟩
              case measure => simp [intOf]
          · have hj9 : ¬ (0 : Int) ≤ z := by omega
            obtain rfl : j = 8 := by omega
            have h3 : Hid (Own8 wr w.heap.size u3 (ks L (k + 1))) := by
              have := hwn.out
              rw [hfin.out, form_num, ← HU.out]
              rw [List.take_of_length_le (by rw [Ky.be_length]; omega)] at this
              simp only [List.append_assoc, List.cons_append, List.nil_append] at this ⊢
              exact Lib.hid this
            go_wp2_with fail
            go_roundw
            case rel => exact ⟨k + 1, by omega, by go_num, h3, HBr⟩
            case measure => simp [intOf]; omega
    · have hkn2 : ¬ (k : Int) < (n : Int) := by omega
      obtain rfl : k = n := by omega
      have hcv := hown.out.conv
      go_wp2_with fail
      go_ret
      exact ⟨rfl, HB.out⟩
end Go.Proofs.YtfgkgehlokabgaaDoor
