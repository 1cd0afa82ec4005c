/-
  Walks over layer 2: text.
-/
import Derived.Test.YtfgkgehlokabgaaDoorArgs
import Derived.Laws.BitsAllLaws
import Derived.Deep.RegionWith
namespace Go.Proofs.YtfgkgehlokabgaaDoor
open Go.RowKit

theorem Own8.drew {w : World} {B : Nat} {v : Value} {l : List UInt8} (h : Own8 w B v l) : Own8 w.drew B v l := h
theorem Blk.free {w : World} {g : Nat} {t : TypeId} {cs : Array Value} (h : Blk w g t cs) (i : Nat) : w.frozen? ⟨g, i, none⟩ = false := by
  unfold Blk at h
  simp [World.frozen?, h]
theorem Blk.drew {w : World} {g : Nat} {t : TypeId} {cs : Array Value} (h : Blk w g t cs) : Blk w.drew g t cs := h
theorem part_free {w : World} {g : Nat} {x y z : Value} {t : TypeId} (h : Blk w g t #[x, y, z]) : w.frozen? ⟨g, 0, none⟩ = false ∧ w.frozen? ⟨g, 1, none⟩ = false ∧ w.frozen? ⟨g, 2, none⟩ = false := ⟨h.free 0, h.free 1, h.free 2⟩
theorem results_cell2 {fn : Func} {p u v : Tmp} {ty : TypeId} (h : fn.results = #[.cell p ty, .tmp u, .tmp v]) (tmps : Array Value) (P : Program) (w : World) :
    (results fn tmps).run P w = ((asAddr (tmps.getD p undef)).run P w).andThen fun a w₁ => ((loadVar ty a).run P w₁).andThen fun x w₂ => .ok (.tuple #[x, tmps.getD u undef, tmps.getD v undef]) w₂ := by
  simp only [results, h]
  simp [Sem.run_bind, Result.andThen]
theorem below3 {B g : Nat} {a w : World} (h : Below B a w) (hB : B ≤ g) (x y z : Value) : Below B a (((w.setCell ⟨g, 0, none⟩ x).setCell ⟨g, 1, none⟩ y).setCell ⟨g, 2, none⟩ z) := ((h.setCell hB x).setCell hB y).setCell hB z

/-- textF, byte by byte. -/
theorem textF_ne (c : UInt8) (r : List UInt8) (hc : c ≠ 0) : Ky.textF (c :: r) = (Ky.textF r).map (fun x => (c :: x.1, x.2)) := by
  cases r with
  | nil => simp [Ky.textF]
  | cons d r => simp only [Ky.textF, if_neg hc]
theorem textF_ff (r : List UInt8) : Ky.textF (0 :: 255 :: r) = (Ky.textF r).map (fun x => (0 :: x.1, x.2)) := by simp [Ky.textF]
theorem textF_one (r : List UInt8) : Ky.textF (0 :: 1 :: r) = some ([], r) := by simp [Ky.textF]
theorem textF_bad (d : UInt8) (r : List UInt8) (h1 : d ≠ 255) (h2 : d ≠ 1) : Ky.textF (0 :: d :: r) = none := by simp [Ky.textF, h1, h2]
theorem textF_end : Ky.textF [0] = none := by simp [Ky.textF]
/-- So far m has been read, the text's rest is r. -/
def TextAt (l m r : List UInt8) : Prop := Ky.textF l = (Ky.textF r).map (fun x => (m ++ x.1, x.2))
theorem TextAt.start (l : List UInt8) : TextAt l [] l := by unfold TextAt; simp
theorem TextAt.ne {l m r : List UInt8} {c : UInt8} (h : TextAt l m (c :: r)) (hc : c ≠ 0) : TextAt l (m ++ [c]) r := by
  unfold TextAt at h ⊢
  rw [h, textF_ne c r hc, Option.map_map]
  congr 1
  funext x
  simp
theorem TextAt.ff {l m r : List UInt8} (h : TextAt l m (0 :: 255 :: r)) : TextAt l (m ++ [0]) r := by
  unfold TextAt at h ⊢
  rw [h, textF_ff, Option.map_map]
  congr 1
  funext x
  simp
theorem TextAt.one {l m r : List UInt8} (h : TextAt l m (0 :: 1 :: r)) : Ky.textF l = some (m, r) := by
  unfold TextAt at h
  rw [h, textF_one]
  simp
theorem TextAt.none_ {l m r : List UInt8} (h : TextAt l m r) (hr : Ky.textF r = none) : Ky.textF l = none := by
  unfold TextAt at h
  rw [h, hr]
  rfl
theorem drop_cons (s : ByteArray) (l : List UInt8) (hl : s.data.toList = l) (k : Nat) (h : k < s.size) : l.drop k = s[k]'h :: l.drop (k + 1) := by
  subst hl
  rw [List.drop_eq_getElem_cons (by simpa using h)]
  rfl
/-- text's answer. -/
def TextOut (l : List UInt8) (w : World) (e : Ending) (w' : World) : Prop :=
  (∀ s r, Ky.textF l = some (s, r) → e = .returned (.tuple #[.agg #[.bool false, .int .i64 0, .string ⟨s.toArray⟩], .string ⟨r.toArray⟩, .bool true])) ∧
  (Ky.textF l = none → e = .returned (.tuple #[.agg #[.bool false, .int .i64 0, .string ⟨#[]⟩], .string ⟨#[]⟩, .bool false])) ∧ Below w.heap.size w w'
theorem textOut_none {l : List UInt8} {w w' : World} {e : Ending} (h : Ky.textF l = none) (he : e = .returned (.tuple #[.agg #[.bool false, .int .i64 0, .string ⟨#[]⟩], .string ⟨#[]⟩, .bool false])) (hb : Below w.heap.size w w') : TextOut l w e w' :=
  ⟨fun s r e' => (by rw [h] at e'; cases e'), fun _ => he, hb⟩
theorem drop_str (s : ByteArray) (l : List UInt8) (hl : s.data.toList = l) (k : Nat) : s.extract k s.size = ⟨(l.drop k).toArray⟩ := by
  apply Go.WideShapes.bytes_inj
  rw [Lib.extract_data, hl]
  exact List.take_of_length_le (by rw [← hl]; simp)
theorem textOut_some {l m r : List UInt8} {w w' : World} {e : Ending} (h : Ky.textF l = some (m, r)) (he : e = .returned (.tuple #[.agg #[.bool false, .int .i64 0, .string ⟨m.toArray⟩], .string ⟨r.toArray⟩, .bool true])) (hb : Below w.heap.size w w') : TextOut l w e w' :=
  ⟨fun s r' e' => (by rw [h] at e'; cases e'; exact he), fun e' => (by rw [h] at e'; cases e'), hb⟩
set_option maxRecDepth 100000 in
set_option maxHeartbeats 8000000 in
theorem text_walk (s : ByteArray) (l : List UInt8) (hl : s.data.toList = l) (hs : s.size ≤ 1099511627776) (w : World) :
    Calls Tryd.prog 25 #[.string s] w (TextOut l w) := by
  have HL := Lib.hid hl
  have hP0 := Lib.hid (Blk.new w #[.bool false, .int .i64 0, .string ⟨#[]⟩] 39)
  clear hl
  go_enter Tryd.func25, Tryd.ntmps25
  go_wp2_with fail
  go_loopw [5, 6] (fun v i wr => ∃ (i0 : Nat) (m : List UInt8), i0 ≤ s.size ∧ i = .int .i64 i0 ∧ Hid (m.length ≤ i0) ∧ Hid (Own8 wr w.heap.size v m) ∧ Hid (Blk wr w.heap.size 39 #[.bool false, .int .i64 0, .string ⟨#[]⟩]) ∧ Hid (Below w.heap.size w wr) ∧ Hid (TextAt l m (l.drop i0))) (fun _ i _ => s.size - (intOf i).toNat)
  case atStart => exact ⟨0, [], by omega, rfl, Lib.hid (Nat.le_refl _), Lib.hid (Own8.nil _ _), hP0, Lib.hid ((Below.refl _ _).alloc (Nat.le_refl _) _), Lib.hid (TextAt.start l)⟩
  case round =>
    obtain ⟨i0, m, hi0, rfl, hml, hwn, hP, HB, HT⟩ := hrel
    have hB1 : Hid (w.heap.size ≤ wr.heap.size) := Lib.hid HB.out.size
    obtain ⟨d0, d1, d2⟩ := part_cells hP.out
    obtain ⟨f0, f1, f2⟩ := part_free hP.out
    clear hP0
    by_cases hi : i0 < s.size
    · have hi2 : (i0 : Int) < (s.size : Int) := by omega
      obtain ⟨c, hc⟩ : ∃ c : UInt8, Hid (s[i0]'hi = c) := ⟨_, Lib.hid rfl⟩
      have hdr : Hid (l.drop i0 = c :: l.drop (i0 + 1)) := by rw [drop_cons s l HL.out i0 hi, hc.out]; exact Lib.hid rfl
      rw [hdr.out] at HT
      by_cases hz : c = 0
      · subst hz
        have hcv : ((s[i0]'hi).toNat : Int) = 0 := by rw [hc.out]; rfl
        by_cases hj : i0 + 1 < s.size
        · have hj2 : (i0 : Int) + 1 < (s.size : Int) := by omega
          have hj3 : ((i0 : Int) + 1 == (s.size : Int)) = false := beq_eq_false_iff_ne.2 (by omega)
          obtain ⟨d, hd⟩ : ∃ c : UInt8, Hid (s[i0 + 1]'hj = c) := ⟨_, Lib.hid rfl⟩
          have hdr2 : Hid (l.drop (i0 + 1) = d :: l.drop (i0 + 1 + 1)) := by rw [drop_cons s l HL.out (i0 + 1) hj, hd.out]; exact Lib.hid rfl
          rw [hdr2.out] at HT
          by_cases h255 : d = 255
          · subst h255
            have hdv : ((s[i0 + 1]'hj).toNat : Int) = 255 := by rw [hd.out]; rfl
            go_wp2_with (at_builtin; refine wpList_app8 rfl _ _ rfl w.heap.size _ _ [0] _ _ (by rfl) hwn.out _ (by rfl) (by first | rfl | simp) (by rfl) (by have := hml.out; simp only [List.length_cons, List.length_nil]; omega) (by have := hB1.out; omega) ?_; intro v2 w2 h2 g2; have hP2 := Lib.hid (g2.out.blk _ _ _ (by decide) hP.out))
            have HB2 := Lib.hid (g2.out.below _ HB.out)
            have HT2 := Lib.hid HT.out.ff
            have hm2 : Hid ((m ++ [0]).length ≤ i0 + 2) := by have := hml.out; refine Lib.hid ?_; simp; omega
            go_roundw
            case rel => exact ⟨i0 + 2, m ++ [0], by omega, by first | rfl | exact congrArg (Value.int .i64) (by omega), hm2, h2, hP2, HB2, HT2⟩
            case measure => simp [intOf]; omega
          · have hn255 : (((s[i0 + 1]'hj).toNat : Int) == 255) = false := beq_eq_false_iff_ne.2 fun e => h255 (UInt8.toNat_inj.1 (by rw [hd.out] at e; show d.toNat = 255; omega))
            by_cases h1 : d = 1
            · subst h1
              have hdv : ((s[i0 + 1]'hj).toNat : Int) = 1 := by rw [hd.out]; rfl
              have HF := Lib.hid HT.out.one
              have hcv2 := hwn.out.drew.conv
              obtain ⟨j2, hj2e⟩ : ∃ j2, Hid (i0 + 2 = j2) := ⟨_, Lib.hid rfl⟩
              have hq1 : (i0 : Int) + 1 + 1 = (j2 : Int) := by have := hj2e.out; omega
              have hq2 : IntKind.i64.wrap (j2 : Int) = (j2 : Int) := IntWalk.i64_in _ (by have := hj2e.out; omega)
              have hsz2 : (j2 : Int) ≤ (s.size : Int) := by have := hj2e.out; omega
              have hsz3 : j2 ≤ s.size := by have := hj2e.out; omega
              go_wp2_with fail
              go_region_with (go_at_call 17; ((with_reducible refine (text_any _ _).mono ?_); rintro e w2 ⟨rfl, hb⟩; have hP2 := hP.out.below (undrew hb) hP.out.lt; obtain ⟨e0, e1, e2⟩ := part_cells hP2; obtain ⟨k0, k1, k2⟩ := part_free hP2))
              all_goals
                go_wp2_with fail
                refine bodyPost_ret (v := .tuple #[.agg #[.bool false, .int .i64 0, .string ⟨m.toArray⟩], .string (s.extract j2 s.size), .bool true]) (by rw [results_cell2 rfl]; go_simp) rfl ?_
                refine textOut_some HF.out (by rw [drop_str s l HL.out j2]; rw [← hj2e.out]) (below3 (HB.out.trans ((undrew hb).mono HB.out.size)) (Nat.le_refl _) _ _ _)
            · have hn1 : (((s[i0 + 1]'hj).toNat : Int) == 1) = false := beq_eq_false_iff_ne.2 fun e => h1 (UInt8.toNat_inj.1 (by rw [hd.out] at e; show d.toNat = 1; omega))
              have HF := Lib.hid (HT.out.none_ (textF_bad d _ h255 h1))
              clear h255 h1
              go_wp2_with fail
              refine bodyPost_ret (v := .tuple #[.agg #[.bool false, .int .i64 0, .string ⟨#[]⟩], .string ⟨#[]⟩, .bool false]) (by rw [results_cell2 rfl]; go_simp) rfl ?_
              exact textOut_none HF.out rfl (below3 HB.out (Nat.le_refl _) _ _ _)
        · have hj3 : ((i0 : Int) + 1 == (s.size : Int)) = true := beq_iff_eq.2 (by omega)
          have HF : Hid (Ky.textF l = none) := by
            have h1 := HT.out
            rw [List.drop_of_length_le (by rw [← HL.out, size_toList]; omega)] at h1
            exact Lib.hid (h1.none_ textF_end)
          go_wp2_with fail
          refine bodyPost_ret (v := .tuple #[.agg #[.bool false, .int .i64 0, .string ⟨#[]⟩], .string ⟨#[]⟩, .bool false]) (by rw [results_cell2 rfl]; go_simp) rfl ?_
          exact textOut_none HF.out rfl (below3 HB.out (Nat.le_refl _) _ _ _)
      · have hcn : (((s[i0]'hi).toNat : Int) != 0) = true := bne_iff_ne.2 fun e => hz (UInt8.toNat_inj.1 (by rw [hc.out] at e; show c.toNat = 0; omega))
        go_wp2_with (at_builtin; refine wpList_app8 rfl _ _ rfl w.heap.size _ _ [s[i0]'hi] _ _ (by rfl) hwn.out _ (by rfl) (by first | rfl | simp) (by rfl) (by have := hml.out; simp only [List.length_cons, List.length_nil]; omega) (by have := hB1.out; omega) ?_; intro v2 w2 h2 g2; have hP2 := Lib.hid (g2.out.blk _ _ _ (by decide) hP.out))
        have HB2 := Lib.hid (g2.out.below _ HB.out)
        have HT2 := Lib.hid (HT.out.ne hz)
        have hm2 : Hid ((m ++ [c]).length ≤ i0 + 1) := by have := hml.out; refine Lib.hid ?_; simp; omega
        rw [hc.out] at h2
        go_roundw
        case rel => exact ⟨i0 + 1, m ++ [c], by omega, by go_num, hm2, h2, hP2, HB2, HT2⟩
        case measure => simp [intOf]; omega
    · have hi2 : ¬ (i0 : Int) < (s.size : Int) := by omega
      have HF : Hid (Ky.textF l = none) := by
        have h1 := HT.out
        rw [List.drop_of_length_le (by rw [← HL.out, size_toList]; omega)] at h1
        exact Lib.hid (h1.none_ rfl)
      go_wp2_with fail
      refine bodyPost_ret (v := .tuple #[.agg #[.bool false, .int .i64 0, .string ⟨#[]⟩], .string ⟨#[]⟩, .bool false]) (by rw [results_cell2 rfl]; go_simp) rfl ?_
      exact textOut_none HF.out rfl (below3 HB.out (Nat.le_refl _) _ _ _)
end Go.Proofs.YtfgkgehlokabgaaDoor
