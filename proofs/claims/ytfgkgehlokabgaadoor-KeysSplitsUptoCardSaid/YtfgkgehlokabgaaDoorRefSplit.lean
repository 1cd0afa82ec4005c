/-
  Walks over layer 2's reference: Split.
-/
import Derived.Test.YtfgkgehlokabgaaDoorRefAfter
import Derived.OneCell
import Derived.Lib.SmallJoins
import Derived.Deep.CutBlock
namespace Go.Proofs.YtfgkgehlokabgaaDoor.Ky

/-- The reference's reading of a text: up to the first 0 that no 255 follows. -/
def lax : List UInt8 → List UInt8
  | [] => []
  | [c] => if c = 0 then [] else [c]
  | c :: d :: r => if c = 0 then (if d = 255 then 0 :: lax r else []) else c :: lax (d :: r)
theorem lax_ne (c : UInt8) (t : List UInt8) (h : c ≠ 0) : lax (c :: t) = c :: lax t := by cases t <;> simp [lax, h]
theorem lax_ff (r : List UInt8) : lax (0 :: 255 :: r) = 0 :: lax r := by simp [lax]
theorem lax_stop (d : UInt8) (r : List UInt8) (h : d ≠ 255) : lax (0 :: d :: r) = [] := by simp [lax, h]
theorem lax_last : lax [0] = [] := by simp [lax]
theorem lax_esc : ∀ s r : List UInt8, lax (esc s ++ 0 :: 1 :: r) = s
  | [], r => lax_stop 1 r (by decide)
  | c :: s, r => by
    by_cases h : c = 0
    · subst h
      show lax (0 :: 255 :: (esc s ++ 0 :: 1 :: r)) = _
      rw [lax_ff, lax_esc s r]
    · rw [show esc (c :: s) = c :: esc s by simp [esc, h], List.cons_append, lax_ne c _ h, lax_esc s r]
theorem lax_text (k s r : List UInt8) (h : textF k = some (s, r)) : lax k = s := by rw [textF_some k s r h]; exact lax_esc s r
/-- The only part that can stand ahead of r. -/
def Guess (r : List UInt8) (p : Part) : Prop := ∀ q r', firstF r = some (q, r') → q = p
theorem Guess.hit {r : List UInt8} {p : Part} (hp : fine p) (hn : norm p = p) (hb : r.take (form p).length = form p) : firstF r = some (p, r.drop (form p).length) := by
  have e : r = form p ++ r.drop (form p).length := by
    have := List.take_append_drop (form p).length r
    rw [hb] at this
    exact this.symm
  have := firstF_form p hp (r.drop (form p).length)
  rw [← e, hn] at this
  exact this
theorem Guess.miss {r : List UInt8} {p : Part} (h : Guess r p) (hb : r.take (form p).length ≠ form p) : firstF r = none := by
  cases hf : firstF r with
  | none => rfl
  | some x =>
    obtain ⟨q, r'⟩ := x
    obtain ⟨e, _, _⟩ := firstF_some r r' q hf
    obtain rfl := h q r' hf
    exact absurd (by rw [e, List.take_left]) hb
theorem guess_num (t : List UInt8) (_h : 8 ≤ t.length) : Guess (1 :: t) ⟨true, (unbe (t.take 8) : Int) - 9223372036854775808, []⟩ := fun q r' e => by
  rw [firstF_cons, if_pos rfl, if_neg (by omega)] at e
  cases e
  rfl
theorem guess_text (t : List UInt8) : Guess (2 :: t) ⟨false, 0, lax t⟩ := fun q r' e => by
  rw [firstF_cons, if_neg (by decide), if_pos rfl] at e
  obtain ⟨x, h1, h2⟩ := Option.map_eq_some_iff.1 e
  cases h2
  rw [lax_text t x.1 x.2 h1]
end Go.Proofs.YtfgkgehlokabgaaDoor.Ky
namespace Go.Proofs.YtfgkgehlokabgaaDoor
open Go.RowKit

theorem OwnP.new (w : World) (B : Nat) (hB : B ≤ w.heap.size) : OwnP (w.alloc (.cells #[] 39)) B (.slice (some ⟨w.heap.size, 0, none⟩) 0 0) [] :=
  ⟨rfl, .inr ⟨w.heap.size, 0, #[], rfl, hB, heap_alloc_new w _, Nat.le_refl _, by unfold maxLen; omega, rfl, rfl⟩⟩
theorem OwnP.grow8 {w w1 : World} {B B' : Nat} {v : Value} {l : List Ky.Part} (h : OwnP w B v l) (hg : Grow8 B' w w1) : OwnP w1 B v l := by
  refine ⟨h.1, ?_⟩
  rcases h.2 with h0 | ⟨g, cap, cur, hv, hB, hh, hr⟩
  · exact .inl h0
  · exact .inr ⟨g, cap, cur, hv, hB, hg.blk g 39 cur (by decide) hh, hr⟩
theorem Blk.set3 {w : World} {g : Nat} {t : TypeId} {a b c : Value} (h : Blk w g t #[a, b, c]) (x y z : Value) : Blk (((w.setCell ⟨g, 0, none⟩ x).setCell ⟨g, 1, none⟩ y).setCell ⟨g, 2, none⟩ z) g t #[x, y, z] := by
  have h1 := Joins.block_setCell (i := 0) h x
  have h2 := Joins.block_setCell (i := 1) h1 y
  exact Joins.block_setCell (i := 2) h2 z
theorem OwnP.set3 {w : World} {B g : Nat} {v : Value} {l : List Ky.Part} (h : OwnP w B v l) (hg : v.ownBlock ≠ some g) (x y z : Value) : OwnP (((w.setCell ⟨g, 0, none⟩ x).setCell ⟨g, 1, none⟩ y).setCell ⟨g, 2, none⟩ z) B v l :=
  ownsRow_setCell_other (ownsRow_setCell_other (ownsRow_setCell_other h hg x) hg y) hg z
/-- The reference's Split's answer. -/
def SplitrOut (l : List UInt8) (w : World) (e : Ending) (w' : World) : Prop :=
  (∀ ps, Ky.IsKey l ps → ∃ v, e = .returned (.tuple #[v, .int .i64 0]) ∧ OwnP w' w.heap.size v ps) ∧ ((∀ ps, ¬ Ky.IsKey l ps) → ∃ ad cap, e = .returned (.tuple #[.slice ad 0 cap, .int .i64 7])) ∧ Below w.heap.size w w'
theorem splitrOut_yes {l : List UInt8} {w w' : World} {e : Ending} {ps : List Ky.Part} {v : Value} (h : Ky.IsKey l ps) (he : e = .returned (.tuple #[v, .int .i64 0])) (ho : OwnP w' w.heap.size v ps) (hb : Below w.heap.size w w') : SplitrOut l w e w' :=
  ⟨fun qs hq => (by obtain rfl := hq.unique h; exact ⟨v, he, ho⟩), fun hn => absurd h (hn ps), hb⟩
theorem splitrOut_no {l : List UInt8} {w w' : World} {e : Ending} {ad : Option Addr} {cap : Nat} (h : ∀ ps, ¬ Ky.IsKey l ps) (he : e = .returned (.tuple #[.slice ad 0 cap, .int .i64 7])) (hb : Below w.heap.size w w') : SplitrOut l w e w' :=
  ⟨fun ps hp => absurd hp (h ps), fun _ => ⟨ad, cap, he⟩, hb⟩
theorem int_byte (x c : UInt8) (n : Nat) (h : x = c) (hn : c.toNat ≠ n) : ((x.toNat : Int) == (n : Int)) = false := beq_eq_false_iff_ne.2 fun e => hn (by rw [h] at e; omega)
set_option maxRecDepth 100000 in
set_option maxHeartbeats 8000000 in
theorem splitr_walk (s : ByteArray) (l : List UInt8) (hl : s.data.toList = l) (hs : s.size ≤ 1073741824) (w : World) :
    Calls Tryd.prog 11 #[.string s] w (SplitrOut l w) := by
  have HL := Lib.hid hl
  have hst := Lib.hid (OwnP.new w w.heap.size (Nat.le_refl _))
  have HB0 := Lib.hid ((Below.refl w.heap.size w).alloc (Nat.le_refl _) (.cells #[] 39))
  clear hl
  go_enter Tryd.func11, Tryd.ntmps11
  go_wp2_with fail
  go_loopw [4, 5] (fun v i wr => ∃ (i0 : Nat) (done : List Ky.Part), i0 ≤ s.size ∧ i = .int .i64 i0 ∧ Hid (ReadAt l done (l.drop i0)) ∧ Hid (OwnP wr w.heap.size v done) ∧ Hid (Below w.heap.size w wr)) (fun _ i _ => s.size - (intOf i).toNat)
  case atStart => exact ⟨0, [], by omega, rfl, by rw [List.drop_zero]; exact Lib.hid (ReadAt.start l), hst, HB0⟩
  case round =>
    obtain ⟨i0, done, hi0, rfl, hR, hown, HB⟩ := hrel
    obtain ⟨wo, rfl⟩ : ∃ x, x = wr := ⟨_, rfl⟩
    have hB1 : Hid (w.heap.size ≤ wo.heap.size) := Lib.hid HB.out.size
    clear hst HB0
    by_cases hi : i0 < s.size
    · have hi2 : (i0 : Int) < (s.size : Int) := by omega
      obtain ⟨c, hc⟩ : ∃ c : UInt8, Hid (s[i0]'hi = c) := ⟨_, Lib.hid rfl⟩
      have hdr : Hid (l.drop i0 = c :: l.drop (i0 + 1)) := by rw [drop_cons s l HL.out i0 hi, hc.out]; exact Lib.hid rfl
      have hP := Lib.hid (Blk.new wo #[.bool false, .int .i64 0, .string ⟨#[]⟩] 39)
      have hgl : Hid (wo.heap.size < (wo.alloc (.cells #[.bool false, .int .i64 0, .string ⟨#[]⟩] 39)).heap.size) := Lib.hid (by simp)
      have hown1 := Lib.hid (hown.out.alloc (.cells #[.bool false, .int .i64 0, .string ⟨#[]⟩] 39))
      have HB1 := Lib.hid (HB.out.alloc HB.out.size (.cells #[.bool false, .int .i64 0, .string ⟨#[]⟩] 39))
      have hob : Hid (u4.ownBlock ≠ some wo.heap.size) := Lib.hid (show u4.ownBlock ≠ some wo.heap.size from fun e => by have := (World.ownsRow.lt hown.out _ e).2; omega)
      go_upto_block 2 with fail
      go_cut [7, 8] from 11 to 103 (fun b k wx => ∃ q : Ky.Part, Hid (Blk wx wo.heap.size 39 #[.bool q.num, .int .i64 q.n, .string ⟨q.s.toArray⟩]) ∧ Hid (Ky.Guess (l.drop i0) q) ∧ Hid (Ky.fine q ∧ Ky.norm q = q ∧ q.s.length ≤ 1073741824) ∧ Hid (OwnP wx w.heap.size u4 done) ∧ Hid (Below w.heap.size w wx))
      case first =>
        by_cases h1 : c = 1
        · subst h1
          have hn1 : (((s[i0]'hi).toNat : Int) == 1) = true := by rw [hc.out]; rfl
          by_cases h9 : i0 + 9 ≤ s.size
          · have h9i : ¬ (s.size : Int) < (i0 : Int) + 9 := by omega
            obtain ⟨z, hz⟩ : ∃ z : Int, Hid (z = (Ky.unbe ((l.drop (i0 + 1)).take 8) : Int) - 9223372036854775808) := ⟨_, Lib.hid rfl⟩
            have hN : Hid (∀ W : World, Calls Tryd.prog 20 #[.string s, .int .i64 ((i0 : Int) + 1)] W fun e w' => e = .returned (.int .i64 z) ∧ W = w') := Lib.hid fun W => number_walk s l HL.out (i0 + 1) (by omega) (by omega) z hz W
            have hG : Hid (Ky.Guess (l.drop i0) ⟨true, z, []⟩) := by
              rw [hdr.out, hz.out]
              exact Lib.hid (Ky.guess_num _ (by rw [List.length_drop, ← HL.out, size_toList]; omega))
            have hzb := unbe_bd8 (l.drop (i0 + 1))
            have hF : Hid (Ky.fine ⟨true, z, []⟩ ∧ Ky.norm ⟨true, z, []⟩ = ⟨true, z, []⟩ ∧ ([] : List UInt8).length ≤ 1073741824) := by
              have := hz.out
              refine Lib.hid ⟨fun _ => ⟨?_, ?_⟩, rfl, by simp⟩ <;> (show _ ≤ _; dsimp only; omega)
            clear hzb
            go_wp2_with (go_at_call 20; refine (unhide hN _).mono ?_; rintro e w1 ⟨rfl, rfl⟩)
            go_meet
            exact ⟨⟨true, z, []⟩, by first | exact Lib.hid (hP.out.set3 _ _ _) | exact Lib.hid (Blk.new _ _ _), hG, hF, by first | exact Lib.hid (hown1.out.set3 hob.out _ _ _) | exact Lib.hid (hown.out.alloc _), by first | exact Lib.hid (below3 HB1.out hB1.out _ _ _) | exact Lib.hid (HB.out.alloc HB.out.size _)⟩
          · have h9i : (s.size : Int) < (i0 : Int) + 9 := by omega
            have HF : Hid (Ky.firstF (l.drop i0) = none) := by
              rw [hdr.out, Ky.firstF_cons, if_pos rfl, if_pos (by rw [List.length_drop, ← HL.out, size_toList]; omega)]
              exact Lib.hid rfl
            have HNE : Hid (l.drop i0 ≠ []) := by rw [hdr.out]; exact Lib.hid (by simp)
            have HN := Lib.hid (hR.out.stuck HNE.out HF.out)
            clear h9
            go_wp2_with fail
            go_ret2
            exact splitrOut_no HN.out rfl (HB1.out.alloc HB1.out.size _)
        · by_cases h2 : c = 2
          · subst h2
            have hn1 : (((s[i0]'hi).toNat : Int) == 1) = false := by rw [hc.out]; rfl
            have hn2 : (((s[i0]'hi).toNat : Int) == 2) = true := by rw [hc.out]; rfl
            have hsn : Hid (i0 + 1 ≤ s.size) := Lib.hid hi
            have hO8 := Lib.hid (own8_zero (wo.alloc (.cells #[.bool false, .int .i64 0, .string ⟨#[]⟩] 39)) w.heap.size HB1.out.size)
            have hP8 := Lib.hid (hP.out.alloc (.cells #[] 5))
            have hown8 := Lib.hid (hown1.out.alloc (.cells #[] 5))
            have HB8 := Lib.hid (HB1.out.alloc HB1.out.size (.cells #[] 5))
            clear h1
            go_upto_block 3 with fail
            go_cut [7, 8] from 11 to 103 (fun b k wx => ∃ m : List UInt8, Hid (m = Ky.lax (l.drop (i0 + 1))) ∧ Hid (m.length ≤ s.size) ∧ Hid (Own8 wx w.heap.size b m) ∧ Hid (Blk wx wo.heap.size 39 #[.bool false, .int .i64 0, .string ⟨#[]⟩]) ∧ Hid (OwnP wx w.heap.size u4 done) ∧ Hid (Below w.heap.size w wx))
            case first =>
              go_wp2_with fail
              go_loopw [7, 8] (fun b k wx => ∃ (k0 : Nat) (m : List UInt8), k0 ≤ s.size ∧ k = .int .i64 k0 ∧ Hid (m.length ≤ k0) ∧ Hid (Ky.lax (l.drop (i0 + 1)) = m ++ Ky.lax (l.drop k0)) ∧ Hid (Own8 wx w.heap.size b m) ∧ Hid (Blk wx wo.heap.size 39 #[.bool false, .int .i64 0, .string ⟨#[]⟩]) ∧ Hid (OwnP wx w.heap.size u4 done) ∧ Hid (Below w.heap.size w wx)) (fun _ k _ => s.size - (intOf k).toNat)
              case atStart => exact ⟨i0 + 1, [], hsn.out, by go_num, Lib.hid (by simp), Lib.hid (by simp), by simpa using hO8, hP8, hown8, HB8⟩
              case round =>
                obtain ⟨k0, m, hk0, rfl, hml, hlx, hv, hPx, hox, hBx⟩ := hrel
                have hB2 : Hid (w.heap.size ≤ wr.heap.size) := Lib.hid hBx.out.size
                clear hO8 hP8 hown8 HB8 hP hown1 HB1
                by_cases hk : k0 < s.size
                · have hk2 : (k0 : Int) < (s.size : Int) := by omega
                  obtain ⟨x, hx⟩ : ∃ c : UInt8, Hid (s[k0]'hk = c) := ⟨_, Lib.hid rfl⟩
                  have hdk : Hid (l.drop k0 = x :: l.drop (k0 + 1)) := by rw [drop_cons s l HL.out k0 hk, hx.out]; exact Lib.hid rfl
                  rw [hdk.out] at hlx
                  by_cases hz : x = 0
                  · subst hz
                    have hx0 : (((s[k0]'hk).toNat : Int) != 0) = false := by rw [hx.out]; rfl
                    by_cases hj : k0 + 1 < s.size
                    · have hj2 : (k0 : Int) + 1 < (s.size : Int) := by omega
                      have hj3 : ((k0 : Int) + 1 == (s.size : Int)) = false := beq_eq_false_iff_ne.2 (by omega)
                      obtain ⟨y, hy⟩ : ∃ c : UInt8, Hid (s[k0 + 1]'hj = c) := ⟨_, Lib.hid rfl⟩
                      have hdk2 : Hid (l.drop (k0 + 1) = y :: l.drop (k0 + 1 + 1)) := by rw [drop_cons s l HL.out (k0 + 1) hj, hy.out]; exact Lib.hid rfl
                      rw [hdk2.out] at hlx
                      by_cases h255 : y = 255
                      · subst h255
                        have hy0 : (((s[k0 + 1]'hj).toNat : Int) != 255) = false := by rw [hy.out]; rfl
                        go_wp2_with (at_builtin; refine wpList_app8 rfl _ _ rfl w.heap.size _ _ [0] _ _ (by rfl) hv.out _ (by rfl) (by first | rfl | simp) (by rfl) (by have := hml.out; simp only [List.length_cons, List.length_nil]; omega) (by have := hB2.out; omega) ?_; intro v2 w2 h2 g2; have hP2 := Lib.hid (g2.out.blk _ _ _ (by decide) hPx.out))
                        have HB2 := Lib.hid (g2.out.below _ hBx.out)
                        have hox2 := Lib.hid (hox.out.grow8 g2.out)
                        have hlx2 : Hid (Ky.lax (l.drop (i0 + 1)) = (m ++ [0]) ++ Ky.lax (l.drop (k0 + 2))) := by
                          rw [hlx.out, Ky.lax_ff, List.append_assoc]
                          exact Lib.hid rfl
                        have hm2 : Hid ((m ++ [0]).length ≤ k0 + 2) := by have := hml.out; refine Lib.hid ?_; simp; omega
                        go_roundw
                        case rel => exact ⟨k0 + 2, m ++ [0], by omega, by first | rfl | exact congrArg (Value.int .i64) (by omega), hm2, hlx2, h2, hP2, hox2, HB2⟩
                        case measure => simp [intOf]; omega
                      · have hy0 : (((s[k0 + 1]'hj).toNat : Int) != 255) = true := bne_iff_ne.2 fun e => h255 (UInt8.toNat_inj.1 (by rw [hy.out] at e; show y.toNat = 255; omega))
                        have hlx2 : Hid (m = Ky.lax (l.drop (i0 + 1))) := by
                          rw [hlx.out, Ky.lax_stop y _ h255, List.append_nil]
                          exact Lib.hid rfl
                        have hm2 : Hid (m.length ≤ s.size) := Lib.hid (Nat.le_trans hml.out hk0)
                        clear h255
                        go_wp2_with fail
                        go_meet
                        exact ⟨m, hlx2, hm2, hv, hPx, hox, hBx⟩
                    · have hj3 : ((k0 : Int) + 1 == (s.size : Int)) = true := beq_iff_eq.2 (by omega)
                      have hlx2 : Hid (m = Ky.lax (l.drop (i0 + 1))) := by
                        have h1 := hlx.out
                        rw [show l.drop (k0 + 1) = [] from List.drop_of_length_le (by rw [← HL.out, size_toList]; omega), Ky.lax_last, List.append_nil] at h1
                        exact Lib.hid h1.symm
                      have hm2 : Hid (m.length ≤ s.size) := Lib.hid (Nat.le_trans hml.out hk0)
                      go_wp2_with fail
                      go_meet
                      exact ⟨m, hlx2, hm2, hv, hPx, hox, hBx⟩
                  · have hx0 : (((s[k0]'hk).toNat : Int) != 0) = true := bne_iff_ne.2 fun e => hz (UInt8.toNat_inj.1 (by rw [hx.out] at e; show x.toNat = 0; omega))
                    go_wp2_with (at_builtin; refine wpList_app8 rfl _ _ rfl w.heap.size _ _ [s[k0]'hk] _ _ (by rfl) hv.out _ (by rfl) (by first | rfl | simp) (by rfl) (by have := hml.out; simp only [List.length_cons, List.length_nil]; omega) (by have := hB2.out; omega) ?_; intro v2 w2 h2 g2; have hP2 := Lib.hid (g2.out.blk _ _ _ (by decide) hPx.out))
                    have HB2 := Lib.hid (g2.out.below _ hBx.out)
                    have hox2 := Lib.hid (hox.out.grow8 g2.out)
                    have hlx2 : Hid (Ky.lax (l.drop (i0 + 1)) = (m ++ [x]) ++ Ky.lax (l.drop (k0 + 1))) := by
                      rw [hlx.out, Ky.lax_ne x _ hz, List.append_assoc]
                      exact Lib.hid rfl
                    have hm2 : Hid ((m ++ [x]).length ≤ k0 + 1) := by have := hml.out; refine Lib.hid ?_; simp; omega
                    rw [hx.out] at h2
                    go_roundw
                    case rel => exact ⟨k0 + 1, m ++ [x], by omega, by go_num, hm2, hlx2, h2, hP2, hox2, HB2⟩
                    case measure => simp [intOf]; omega
                · have hk2 : ¬ (k0 : Int) < (s.size : Int) := by omega
                  have hlx2 : Hid (m = Ky.lax (l.drop (i0 + 1))) := by
                    have h1 := hlx.out
                    rw [show l.drop k0 = [] from List.drop_of_length_le (by rw [← HL.out, size_toList]; omega), show Ky.lax [] = [] by simp [Ky.lax], List.append_nil] at h1
                    exact Lib.hid h1.symm
                  have hm2 : Hid (m.length ≤ s.size) := Lib.hid (Nat.le_trans hml.out hk0)
                  go_wp2_with fail
                  go_meet
                  exact ⟨m, hlx2, hm2, hv, hPx, hox, hBx⟩
            case rest =>
              obtain ⟨m, hm, hml, hv, hPx, hox, hBx⟩ := hcut
              have hcv2 := hv.out.conv
              obtain ⟨d0, d1, d2⟩ := part_cells hPx.out
              obtain ⟨f0, f1, f2⟩ := part_free hPx.out
              have hG : Hid (Ky.Guess (l.drop i0) ⟨false, 0, m⟩) := by
                rw [hdr.out, hm.out]
                exact Lib.hid (Ky.guess_text _)
              go_wp2_with fail
              go_meet
              exact ⟨⟨false, 0, m⟩, Lib.hid (hPx.out.set3 _ _ _), hG, Lib.hid ⟨(fun h => by cases h), rfl, Nat.le_trans hml.out (by omega)⟩, Lib.hid (hox.out.set3 hob.out _ _ _), Lib.hid (below3 hBx.out hB1.out _ _ _)⟩
          · have hn1 : (((s[i0]'hi).toNat : Int) == 1) = false := int_byte _ c 1 hc.out (fun e => h1 (UInt8.toNat_inj.1 e))
            have hn2 : (((s[i0]'hi).toNat : Int) == 2) = false := int_byte _ c 2 hc.out (fun e => h2 (UInt8.toNat_inj.1 e))
            have HF : Hid (Ky.firstF (l.drop i0) = none) := by
              rw [hdr.out, Ky.firstF_cons, if_neg h1, if_neg h2]
              exact Lib.hid rfl
            have HNE : Hid (l.drop i0 ≠ []) := by rw [hdr.out]; exact Lib.hid (by simp)
            have HN := Lib.hid (hR.out.stuck HNE.out HF.out)
            clear h1 h2
            go_wp2_with fail
            go_ret2
            exact splitrOut_no HN.out rfl (HB1.out.alloc HB1.out.size _)
      case rest =>
        obtain ⟨q, hPq, hG, hF, hox, hBx⟩ := hcut
        obtain ⟨d0, d1, d2⟩ := part_cells hPq.out
        have hB2 : Hid (w.heap.size ≤ wc.heap.size) := Lib.hid hBx.out.size
        have hok : PV.Ok ⟨q.num, q.n, ⟨q.s.toArray⟩⟩ := by
          obtain ⟨hf, hn, hs9⟩ := hF.out
          have hc := Ky.norm_clean q hn
          refine ⟨?_, ?_, ?_⟩
          · cases hp : q.num
            · show _ ≤ q.n; rw [hc.2 hp]; omega
            · exact (hf hp).1
          · cases hp : q.num
            · show q.n ≤ _; rw [hc.2 hp]; omega
            · exact (hf hp).2
          · show q.s.toArray.size ≤ _
            simp
            omega
        have hfm := hide fun (W : World) => form_any ⟨q.num, q.n, ⟨q.s.toArray⟩⟩ hok W
        clear hok hP hgl hown1 HB1
        go_wp2_with fail
        refine (unhide hfm _).mono ?_
        rintro e w1 ⟨v, rfl, hv, hb⟩
        have hq : PV.toP ⟨q.num, q.n, ⟨q.s.toArray⟩⟩ = q := rfl
        rw [hq] at hv
        clear hq
        obtain ⟨f, hf⟩ : ∃ f, Hid (Ky.form q = f) := ⟨_, Lib.hid rfl⟩
        rw [hf.out] at hv
        obtain ⟨n, hn⟩ : ∃ n, Hid (f.length = n) := ⟨_, Lib.hid rfl⟩
        have hnpos : Hid (0 < n) := by
          rw [← hn.out, ← hf.out]
          exact Lib.hid (List.length_pos_iff.2 (Ky.form_ne_nil q))
        obtain ⟨g, cap, hve, _⟩ := World.ownsRow.form hv (by have := hnpos.out; have := hn.out; omega)
        rw [hn.out] at hve
        subst hve
        have hcv := fun k : Nat => Own8.conv (w := w1.drewN k) hv
        have HBw := Lib.hid (hBx.out.trans (hb.mono hBx.out.size))
        have hPw := Lib.hid (hPq.out.below hb hPq.out.lt)
        have how := Lib.hid (hox.out.below hb (Nat.le_refl _))
        have hnb : Hid (n ≤ 4398046511104) := by
          rw [← hn.out, ← hf.out]
          have h1 := hF.out.2.2
          have h2 := esc_le q.s
          refine Lib.hid ?_
          unfold Ky.form
          split
          · rw [List.length_cons, Ky.be_length]; omega
          · simp only [List.length_cons, List.length_append, List.length_nil]; omega
        have hnb2 := hnb.out
        have HNE : Hid (l.drop i0 ≠ []) := by rw [hdr.out]; exact Lib.hid (by simp)
        have hlen9 : Hid ((l.drop i0).length = s.size - i0) := by rw [List.length_drop, ← HL.out, size_toList]; exact Lib.hid rfl
        clear d0 d1 d2 hfm hb hv
        by_cases hlen : i0 + n ≤ s.size
        · have hl2 : decide ((s.size : Int) < (i0 : Int) + (n : Int)) = false := decide_eq_false (by omega)
          have hl3 : (i0 : Int) ≤ (i0 : Int) + (n : Int) := by omega
          have htn : ((i0 : Int) + (n : Int)).toNat = i0 + n := by omega
          have hwr : IntKind.i64.wrap ((i0 : Int) + (n : Int)) = (i0 : Int) + (n : Int) := IntWalk.i64_in _ (by omega)
          have hl4 : (i0 : Int) + (n : Int) ≤ (s.size : Int) := by omega
          have htk : Hid ((s.extract i0 (i0 + n)).data.toList = (l.drop i0).take n) := by
            rw [Lib.extract_data, HL.out, Nat.add_sub_cancel_left]
            exact Lib.hid rfl
          by_cases heq : (l.drop i0).take n = f
          · have HF : Hid (Ky.firstF (l.drop i0) = some (q, l.drop (i0 + n))) := by
              have h1 := Ky.Guess.hit hF.out.1 hF.out.2.1 (by rw [hf.out, hn.out]; exact heq)
              rw [hf.out, hn.out, List.drop_drop] at h1
              exact Lib.hid h1
            have hc1 : s.extract i0 (i0 + n) = ⟨f.toArray⟩ := Go.WideShapes.bytes_inj (by rw [htk.out, heq])
            rw [← hc1] at hcv
            clear heq hc1
            have hcmp : ((s.extract i0 (i0 + n)).toList == (s.extract i0 (i0 + n)).toList) = true := beq_self_eq_true _
            have HR2 := Lib.hid (hR.out.next HF.out)
            have hdn : Hid (done.length + 1 ≤ 1099511627776) := by
              have h1 := hR.out.len
              have h2 := hlen9.out
              have h3 : l.length = s.size := by rw [← HL.out, size_toList]
              exact Lib.hid (by omega)
            go_wp2_with fail
            go_quiet (fail)
            have HBq := Lib.hid (bdn HBw.out nq)
            have hPq2 : Hid (Blk (w1.drewN nq) wo.heap.size 39 #[.bool q.num, .int .i64 q.n, .string ⟨q.s.toArray⟩]) := Lib.hid hPw.out
            have hoq : Hid (OwnP (w1.drewN nq) w.heap.size u4 done) := Lib.hid how.out
            clear hcv hcmp hPw how HBw
            generalize w1.drewN nq = w2 at HBq hPq2 hoq ⊢
            obtain ⟨d0, d1, d2⟩ := part_cells hPq2.out
            have hsz2 : Hid (w.heap.size ≤ w2.heap.size) := Lib.hid HBq.out.size
            have HB3 := Lib.hid (HBq.out.alloc hsz2.out (.cells #[.bool q.num, .int .i64 q.n, .string ⟨q.s.toArray⟩] 39))
            have hown2 := Lib.hid (hoq.out.alloc (.cells #[.bool q.num, .int .i64 q.n, .string ⟨q.s.toArray⟩] 39))
            go_wp2_with (at_builtin; refine wpList_appP rfl _ _ rfl w.heap.size _ _ q _ _ (by rfl) hoq.out _ (by rfl) (by simp) (by rfl) hdn.out (by have := hsz2.out; omega) ?_; intro v3 w3 h3 g3)
            have HB4 := Lib.hid (g3.out _ HBq.out)
            go_roundw
            case rel => exact ⟨i0 + n, done ++ [q], hlen, by go_num, HR2, h3, HB4⟩
            case measure => have := hnpos.out; simp [intOf]; omega
          · have HF : Hid (Ky.firstF (l.drop i0) = none) := Lib.hid (hG.out.miss (by rw [hf.out, hn.out]; exact heq))
            have HN := Lib.hid (hR.out.stuck HNE.out HF.out)
            obtain ⟨Y, hY⟩ : ∃ Y : ByteArray, Hid (Y = ⟨f.toArray⟩) := ⟨_, Lib.hid rfl⟩
            have hcmp : ((s.extract i0 (i0 + n)).toList == Y.toList) = false := by
              rw [ByteArray.toList_eq, ByteArray.toList_eq, htk.out, hY.out]
              exact beq_eq_false_iff_ne.2 heq
            rw [← hY.out] at hcv
            clear heq
            go_wp2_with fail
            go_quiet (fail)
            go_wp2_with fail
            go_ret2
            exact splitrOut_no HN.out rfl (bdn (HBw.out.alloc HBw.out.size _) _)
        · have hl2 : (s.size : Int) < (i0 : Int) + (n : Int) := by omega
          have HF : Hid (Ky.firstF (l.drop i0) = none) := Lib.hid (hG.out.miss (by
            rw [hf.out, hn.out]
            intro e
            have h1 := congrArg List.length e
            have h2 := hlen9.out
            have h3 := hn.out
            rw [List.length_take] at h1
            omega))
          have HN := Lib.hid (hR.out.stuck HNE.out HF.out)
          clear hcv
          go_wp2_with fail
          go_quiet (fail)
          go_wp2_with fail
          go_ret2
          exact splitrOut_no HN.out rfl (bdn (HBw.out.alloc HBw.out.size _) _)
    · have hi2 : ¬ (i0 : Int) < (s.size : Int) := by omega
      have HK : Hid (Ky.IsKey l done) := by
        have h1 := hR.out
        rw [show l.drop i0 = [] from List.drop_of_length_le (by rw [← HL.out, size_toList]; omega)] at h1
        exact Lib.hid h1.done
      go_wp2_with fail
      go_ret2
      exact splitrOut_yes HK.out rfl hown.out HB.out
end Go.Proofs.YtfgkgehlokabgaaDoor
