/-
  Walks over layer 2: Split.
-/
import Derived.Test.YtfgkgehlokabgaaDoorFirst
import Derived.Deep.QuietTactic
namespace Go.Proofs.YtfgkgehlokabgaaDoor
open Go.RowKit

/-- A part's cells. -/
def cellsP (p : Ky.Part) : List Value := [.bool p.num, .int .i64 p.n, .string ⟨p.s.toArray⟩]
theorem cellsP_length (l : List Ky.Part) : (l.flatMap cellsP).length = l.length * 3 := by
  induction l with
  | nil => rfl
  | cons p l ih => rw [List.flatMap_cons, List.length_append, ih, List.length_cons]; show 3 + _ = _; omega
theorem part_info : (Tryd.prog.info? 39).map (fun i => (i.zero, i.size, i.bytes)) = some (some (.agg #[.bool false, .int .i64 0, .string ⟨#[]⟩]), 3, 32) := by kernel_rfl
/-- The value v is a slice of the call's own (from block B on) that holds these parts. -/
def OwnP (w : World) (B : Nat) (v : Value) (l : List Ky.Part) : Prop := w.ownsRow B 39 3 v l.length (l.flatMap cellsP)
theorem OwnP.nil (w : World) (B : Nat) : OwnP w B (.slice none 0 0) [] := World.ownsRow_nil _ _ _ _
theorem OwnP.alloc {w : World} {B : Nat} {v : Value} {l : List Ky.Part} (h : OwnP w B v l) (o : Obj) : OwnP (w.alloc o) B v l := World.ownsRow.alloc h o
theorem OwnP.below {w w1 : World} {B B' : Nat} {v : Value} {l : List Ky.Part} (h : OwnP w B v l) (hb : Below B' w w1) (hB' : w.heap.size ≤ B') : OwnP w1 B v l := by
  refine ⟨h.1, ?_⟩
  rcases h.2 with h0 | ⟨g, cap, cur, hv, hB, hh, hr⟩
  · exact .inl h0
  · exact .inr ⟨g, cap, cur, hv, hB, (hb.block g (Nat.lt_of_lt_of_le (Blk.lt (t := 39) (cs := cur) hh) hB')).trans hh, hr⟩
theorem wpList_appP {ops : Array Oper} {rest : List Oper} {o : Oper} {a : Act} {Q : Exit → Act → World → Prop} (hgd : o.guard = none) (s x : Operand)
    (ho : o.op = .call { callee := .builtin .append, args := #[s, x], argTypes := #[22, 22] })
    (B : Nat) (v : Value) (l : List Ky.Part) (p : Ky.Part) (W : World) (cs : Array Value) (hs : a.eval s = v) (hown : OwnP W B v l) (g : Nat) (hx : a.eval x = .slice (some ⟨g, 0, none⟩) 1 1) (hgW : g = W.heap.size)
    (hcs : cs = (cellsP p).toArray) (hlen : l.length + 1 ≤ 1099511627776) (hB : B ≤ W.heap.size)
    (h : ∀ v' w1, Hid (OwnP w1 B v' (l ++ [p])) → Hid (∀ w, Below B w W → Below B w w1) → wpList Tryd.prog ops Q rest (a.put o.dst v') w1) : wpList Tryd.prog ops Q (o :: rest) a (W.alloc (.cells cs 39)) := by
  obtain ⟨i0, hi, hz0, hz1, hz2⟩ := info_parts part_info
  subst hcs hgW
  refine wpList_append_own _ hgd s x 22 ho B 39 i0 (.agg #[.bool false, .int .i64 0, .string ⟨#[]⟩]) 3 32 Tryd.underlying22 hi hz0 hz1 hz2 rfl (by decide) v l.length (l.flatMap cellsP) hs (World.ownsRow.alloc hown _) ⟨W.heap.size, 0, none⟩ 1 1 (cellsP p) hx rfl
    (cells_new W _ _) (fun u hu => by simp only [cellsP, List.mem_cons, List.not_mem_nil, or_false] at hu; rcases hu with rfl | rfl | rfl <;> rfl) (by unfold maxLen; omega) (by omega) (by simp; omega) ?_
  intro v' w1 h1 h2 _
  refine h v' w1 (Lib.hid ?_) (Lib.hid fun w hb => (hb.alloc hB _).grown h2 (by simp; omega) (fun j hj => by have := (World.ownsRow.lt hown j hj).1; omega))
  unfold OwnP
  rw [List.length_append, List.flatMap_append]
  simpa using h1
/-- Split's answer. -/
def SplitOut (l : List UInt8) (x : Value) (w : World) (e : Ending) (w' : World) : Prop :=
  (∀ ps, Ky.IsKey l ps → ∃ v, e = .returned (.tuple #[v, .nilIface]) ∧ OwnP w' w.heap.size v ps) ∧ ((∀ ps, ¬ Ky.IsKey l ps) → e = .returned (.tuple #[.slice none 0 0, x])) ∧ Below w.heap.size w w'
theorem splitOut_yes {l : List UInt8} {x : Value} {w w' : World} {e : Ending} {ps : List Ky.Part} {v : Value} (h : Ky.IsKey l ps) (he : e = .returned (.tuple #[v, .nilIface])) (ho : OwnP w' w.heap.size v ps) (hb : Below w.heap.size w w') : SplitOut l x w e w' :=
  ⟨fun qs hq => (by obtain rfl := hq.unique h; exact ⟨v, he, ho⟩), fun hn => absurd h (hn ps), hb⟩
theorem splitOut_no {l : List UInt8} {x : Value} {w w' : World} {e : Ending} (h : ∀ ps, ¬ Ky.IsKey l ps) (he : e = .returned (.tuple #[.slice none 0 0, x])) (hb : Below w.heap.size w w') : SplitOut l x w e w' :=
  ⟨fun ps hp => absurd hp (h ps), fun _ => he, hb⟩
/-- Read so far. -/
structure ReadAt (l : List UInt8) (done : List Ky.Part) (r : List UInt8) : Prop where
  key : Ky.key done ++ r = l
  clean : ∀ p ∈ done, Ky.norm p = p
  fine : ∀ p ∈ done, Ky.fine p
  len : done.length + r.length ≤ l.length
theorem ReadAt.start (l : List UInt8) : ReadAt l [] l := ⟨rfl, by simp, by simp, by simp⟩
theorem ReadAt.next {l r r' : List UInt8} {done : List Ky.Part} {p : Ky.Part} (h : ReadAt l done r) (hf : Ky.firstF r = some (p, r')) : ReadAt l (done ++ [p]) r' := by
  obtain ⟨e, h1, h2⟩ := Ky.firstF_some r r' p hf
  have h3 := Ky.firstF_shorter r r' p hf
  refine ⟨?_, fun q hq => ?_, fun q hq => ?_, by have := h.len; simp; omega⟩
  · rw [Ky.key_append, List.append_assoc, ← h.key, e]
    simp [Ky.key]
  · rcases List.mem_append.1 hq with h4 | h4
    · exact h.clean q h4
    · obtain rfl : q = p := by simpa using h4
      exact h1
  · rcases List.mem_append.1 hq with h4 | h4
    · exact h.fine q h4
    · obtain rfl : q = p := by simpa using h4
      exact h2
theorem ReadAt.done {l : List UInt8} {done : List Ky.Part} (h : ReadAt l done []) : Ky.IsKey l done := ⟨by have := h.key; simpa using this, h.clean, h.fine⟩
theorem ReadAt.stuck {l r : List UInt8} {done : List Ky.Part} (h : ReadAt l done r) (hr : r ≠ []) (hf : Ky.firstF r = none) : ∀ ps, ¬ Ky.IsKey l ps := Ky.no_key l r done h.fine h.key hr hf
def strLen : Value → Nat
  | .string s => s.size
  | _ => 0
set_option maxRecDepth 100000 in
set_option maxHeartbeats 8000000 in
theorem split_walk (s : ByteArray) (l : List UInt8) (hl : s.data.toList = l) (hs : s.size ≤ 1073741824) (x : Value) (B : Nat) (w : World) (hBw : B ≤ w.heap.size) (hgB : 0 < B) (hc : w.cell? ⟨0, 0, none⟩ = some x) :
    Calls Tryd.prog 7 #[.string s] w (SplitOut l x w) := by
  have HL := Lib.hid hl
  have HC := Lib.hid hc
  have HG := Lib.hid (Nat.lt_of_lt_of_le hgB hBw)
  have hsz := size_toList s
  rw [hl] at hsz
  have HZ := Lib.hid hsz
  clear hl hc hgB hBw hsz
  go_enter Tryd.func7, Tryd.ntmps7
  go_wp2_with fail
  go_loopw [0, 4] (fun k v wr => ∃ (T : ByteArray) (done : List Ky.Part), k = .string T ∧ Hid (ReadAt l done T.data.toList) ∧ Hid (OwnP wr w.heap.size v done) ∧ Hid (Below w.heap.size w wr)) (fun k _ _ => strLen k)
  case atStart => exact ⟨s, [], rfl, by rw [HL.out]; exact Lib.hid (ReadAt.start l), Lib.hid (OwnP.nil _ _), Lib.hid (Below.refl _ _)⟩
  case round =>
    obtain ⟨T, done, rfl, hR, hown, HB⟩ := hrel
    by_cases h0 : T.size = 0
    · have hnil : T.data.toList = [] := List.eq_nil_of_length_eq_zero (by rw [size_toList]; exact h0)
      have he1 : T.toList = [] := by rw [ByteArray.toList_eq]; exact hnil
      rw [hnil] at hR
      have HK := Lib.hid hR.out.done
      clear hnil h0
      go_wp2_with fail
      go_ret2
      exact splitOut_yes HK.out rfl hown.out HB.out
    · have hne : T.data.toList ≠ [] := fun e => h0 (by rw [← size_toList, e]; rfl)
      have he1 : T.toList.isEmpty = false := by rw [ByteArray.toList_eq]; cases hq : T.data.toList with | nil => exact absurd hq hne | cons _ _ => rfl
      have he2 : (T.toList == []) = false := beq_eq_false_iff_ne.2 (by rw [ByteArray.toList_eq]; exact hne)
      have hTs : T.size ≤ 1073741824 := by
        have := hR.out.len
        rw [size_toList] at this
        have := HZ.out
        omega
      have hf := hide (fun W => first_walk T _ rfl (by omega) (Nat.le_trans hTs (by decide)) W)
      have HNE := Lib.hid hne
      have hB1 : Hid (w.heap.size ≤ wr.heap.size) := Lib.hid HB.out.size
      have hdl : Hid (done.length + 1 ≤ 1099511627776) := by
        have h1 := hR.out.len
        have h2 := HZ.out
        exact Lib.hid (by omega)
      clear hne h0
      go_wp2_with fail
      refine (unhide hf _).mono ?_
      rintro e w1 ⟨hsome, hnone, hb⟩
      cases ho : Ky.firstF T.data.toList with
      | none =>
        obtain rfl := hnone ho
        have HN := Lib.hid (hR.out.stuck HNE.out ho)
        have HB2 := Lib.hid (HB.out.trans (hb.mono HB.out.size))
        have hc2 : w1.cell? ⟨0, 0, none⟩ = some x := (HB2.out.cell (p := ⟨0, 0, none⟩) HG.out).trans HC.out
        have hsz2 : Hid (w.heap.size ≤ w1.heap.size) := Lib.hid HB2.out.size
        have HGl : 0 < w1.heap.size := Nat.lt_of_lt_of_le HG.out hsz2.out
        clear hsome hnone ho hb hf
        go_wp2_with fail
        go_quiet (fail)
        go_wp2_with fail
        go_ret2
        exact splitOut_no HN.out rfl (bdn (HB2.out.alloc hsz2.out _) _)
      | some y =>
        obtain ⟨p, r⟩ := y
        obtain rfl := hsome p r ho
        have HR2 := Lib.hid (hR.out.next ho)
        have HB2 := Lib.hid (HB.out.trans (hb.mono HB.out.size))
        have hsh := Lib.hid (Ky.firstF_shorter _ _ _ ho)
        have hsz2 : Hid (w.heap.size ≤ w1.heap.size) := Lib.hid HB2.out.size
        have HB3 := Lib.hid (HB2.out.alloc hsz2.out (.cells #[.bool p.num, .int .i64 p.n, .string ⟨p.s.toArray⟩] 39))
        have hown2 := Lib.hid ((hown.out.below hb (Nat.le_refl _)).alloc (.cells #[.bool p.num, .int .i64 p.n, .string ⟨p.s.toArray⟩] 39))
        clear hsome hnone ho hb hf hown hR
        go_wp2_with (at_builtin; refine wpList_appP rfl _ _ rfl w.heap.size _ _ p _ _ (by rfl) hown2.out _ (by rfl) (by simp) (by rfl) hdl.out (by have := hsz2.out; simp; omega) ?_; intro v3 w3 h3 g3)
        have HB4 := Lib.hid (g3.out _ HB3.out)
        go_roundw
        case rel => exact ⟨⟨r.toArray⟩, done ++ [p], rfl, HR2, h3, HB4⟩
        case measure =>
          have h1 := hsh.out
          have h2 : (⟨r.toArray⟩ : ByteArray).size = r.length := by show r.toArray.size = _; simp
          show strLen (.string ⟨r.toArray⟩) < strLen (.string T)
          simp only [strLen, h2]
          rw [size_toList] at h1
          exact h1
end Go.Proofs.YtfgkgehlokabgaaDoor
