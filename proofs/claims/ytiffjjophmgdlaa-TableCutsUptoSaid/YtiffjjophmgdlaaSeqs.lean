/-
  Layer 11: Range, Back, their iterators; what an iterator tells (printed by gen_r11seqs.py).
-/
import Derived.Test.YtiffjjophmgdlaaClo
import Derived.Test.YtiffjjophmgdlaaFrom
namespace Go.Proofs.Ytiffjjophmgdlaa
open Go.RowKit Tb
attribute [local go_sem] Oper.semAt_some

theorem blk_new2 (W : World) (c1 c2 c3 : Array Value) (t1 t2 t3 : TypeId) : Blk (((W.alloc (.cells c1 t1)).alloc (.cells c2 t2)).alloc (.cells c3 t3)) (W.heap.size + 1 + 1) t3 c3 := by
  have := Blk.new ((W.alloc (.cells c1 t1)).alloc (.cells c2 t2)) c3 t3
  rw [World.size_alloc, World.size_alloc] at this
  exact this
theorem take_all {R : List Rw} {ok : Rw → Bool} (h : ∀ r ∈ R, ok r = true) : R.takeWhile ok = R := by
  induction R with
  | nil => rfl
  | cons a R ih => rw [List.takeWhile_cons, h a (by simp), ih fun r hr => h r (by simp [hr])]; rfl
theorem take_more {q : List Rw} {ok : Rw → Bool} (h : ∀ r ∈ q, ok r = true) (m : List Rw) : (q ++ m).takeWhile ok = q ++ m.takeWhile ok := by
  induction q with
  | nil => rfl
  | cons a q ih => rw [List.cons_append, List.takeWhile_cons, h a (by simp), ih fun r hr => h r (by simp [hr])]; rfl
theorem take_stop {q R : List Rw} {r : Rw} {ok : Rw → Bool} (h : q ++ [r] <+: R) (hq : ∀ r ∈ q, ok r = true) (hr : ok r = false) : R.takeWhile ok = q := by
  obtain ⟨m, rfl⟩ := h
  rw [List.append_assoc, take_more hq, List.singleton_append, List.takeWhile_cons, hr]
  simp
theorem take_pre {q R : List Rw} {r : Rw} {ok : Rw → Bool} (h : q ++ [r] <+: R) (hq : ∀ r ∈ q, ok r = true) (hr : ok r = true) : q ++ [r] <+: R.takeWhile ok := by
  obtain ⟨m, rfl⟩ := h
  rw [List.append_assoc, take_more hq, List.singleton_append, List.takeWhile_cons, hr]
  exact ⟨m.takeWhile ok, by simp⟩
/-- What a round of gather keeps: what lay below n, and the boxes of functions. -/
def Kf (n : Nat) (X Y : World) : Prop := Below n X Y ∧ ∀ (k : Nat) (cs : Array Value) (m : Nat × Nat), X.heap[k]? = some (.cells cs 46 m) → Y.heap[k]? = some (.cells cs 46 m)
theorem Kf.trans {n : Nat} {A B C : World} (h : Kf n A B) (k : Kf n B C) : Kf n A C := ⟨h.1.trans k.1, fun i cs m hx => k.2 i cs m (h.2 i cs m hx)⟩
theorem Kf.refl (n : Nat) (A : World) : Kf n A A := ⟨Below.refl _ _, fun _ _ _ h => h⟩
theorem Kf.putObj {n : Nat} {w : World} (hn : n ≤ w.heap.size) (W : World) (l : Nat) (o o' : Obj) (hl : w.heap.size ≤ l) (h : W.heap[l]? = some o) (hc : o.isCells = false) (hw : o.isWalk = false) : Kf n W (W.putObj l o') :=
  ⟨belowK_b hn W l o o' hl h hc hw, fun k cs m hx => by
    have hk : k ≠ l := fun e => by subst e; rw [h] at hx; cases hx; cases hc
    rw [World.putObj_heap_other hk]
    exact hx⟩
theorem Kf.setCell {n : Nat} {A B : World} (h : Kf n A B) (a : Addr) (ha : n ≤ a.block) (v : Value) {t : TypeId} {cs : Array Value} (hb : Blk B a.block t cs) (ht : t ≠ 46) : Kf n A (B.setCell a v) :=
  h.trans ⟨(Below.refl _ _).setCell ha _, fun k cs' m hx => by
    have hk : k ≠ a.block := fun e => by subst e; rw [show B.heap[a.block]? = _ from hb] at hx; cases hx; exact ht rfl
    exact (Below.heap_setCell B a v k hk).trans hx⟩
/-- An iterator, and the rows that it tells. -/
structure Tells (w0 : World) (f : FuncId) (lb : Array Value) (ys : List Rw) (N : Nat) : Prop where
  stops : ∀ n, 1 ≤ n → ∀ w1, Below w0.heap.size w0 w1 → SeqStopsK Fence.wide n Try.prog f lb encR (Kf w0.heap.size) (fun zs => zs = ys) (fun pre => pre <+: ys) N w1
  enters : ∀ args w, (callFunc f args).run Try.prog w = .ok (.enter f args) w
theorem from_iter (w0 : World) (x y : Nat) (p : Option Addr) (t : Tr) (lo : ByteArray) (h1 : Blk w0 x 49 #[.pointer p]) (h2 : Blk w0 y 9 #[.string lo]) (h3 : At w0 t p) (hs : Sorted t.ino) :
    Tells w0 22 #[.pointer (some ⟨x, 0, none⟩), .pointer (some ⟨y, 0, none⟩)] (t.ino.filter fun r => !lt r.1 lo) t.cnt := by
  refine ⟨fun n hn w1 hw => ?_, enters_of Try.func22 (by kernel_rfl) rfl⟩
  rw [← ris_filter lo t hs]
  exact fun l J Jx W hW hJ hJx hY h0 => from_stops n hn x y p t lo w0 w1 (h1.below hw h1.lt) (h2.below hw h2.lt) h3 hw l J Jx W hW hJ hJx
    (fun pre x W h hl => YieldAt.mono (hY pre x W h (Nat.lt_of_lt_of_le hl (ris_le t lo))) fun e W' h => h.imp (fun h => ⟨h.1, h.2.1, h.2.2.1⟩) id) h0
set_option maxHeartbeats 2000000 in
theorem range_any (b : Nat) (p : Option Addr) (m : Int) (lo hi : ByteArray) (w : World) (h : Blk w b 51 #[.pointer p, .int .i64 m]) :
    Calls Try.prog 13 #[.pointer (some ⟨b, 0, none⟩), .string lo, .string hi] w fun e w' => ∃ x y z, e = .returned (.func (.func 24) #[] #[.pointer (some ⟨x, 0, none⟩), .pointer (some ⟨y, 0, none⟩), .pointer (some ⟨z, 0, none⟩)]) ∧
      Blk w' x 49 #[.pointer p] ∧ Blk w' y 9 #[.string lo] ∧ Blk w' z 9 #[.string hi] ∧ Below w.heap.size w w' := by
  have hmf : ∀ (fn : Fn) (first cap : Array Value) (w : World), (Instr.makeFunc fn first cap).run Try.prog w = .ok (.func fn first cap) w := fun _ _ _ _ => rfl
  have c0 : w.cell? ⟨b, 0, none⟩ = some (.pointer p) := h.at_ 0
  have hblt := h.lt
  clear h
  go_enter Try.func13, Try.ntmps13
  go_wp2_with fail
  go_ret
  exact ⟨w.heap.size + 1 + 1, w.heap.size, w.heap.size + 1, rfl, blk_new2 _ _ _ _ _ _ _, ((Blk.new _ _ _).alloc _).alloc _, (blk_new' _ _ _ _ _).alloc _, (((Below.refl _ _).alloc (Nat.le_refl _) _).alloc (by simp) _).alloc (by simp; omega) _⟩
set_option maxRecDepth 100000 in
set_option maxHeartbeats 4000000 in
theorem range1_in (n : Nat) (w0 : World) (l x y z : Nat) (p : Option Addr) (t : Tr) (lo hi : ByteArray) (J Jx : List Rw → World → Prop) (W : World) (hJd : ∀ s X Y, J s X → Below X.heap.size X Y → J s Y)
    (hY : ∀ pre x W, J pre W → pre.length < (t.ris lo).length → YieldAt Fence.wide (n - 1) Try.prog l (encR x) W fun e W' =>
      (e = .returned (.bool true) ∧ J (pre ++ [x]) W' ∧ Kf w0.heap.size W W') ∨ (e = .returned (.bool false) ∧ Jx (pre ++ [x]) W'))
    (h1 : Blk w0 x 49 #[.pointer p]) (h2 : Blk w0 y 9 #[.string lo]) (h4 : Blk w0 z 9 #[.string hi]) (h3 : At w0 t p) (hW : Below w0.heap.size w0 W) (h0 : J [] W) :
    CallsIn Fence.wide n Try.prog 24 #[.func (.yield l) #[] #[], .pointer (some ⟨x, 0, none⟩), .pointer (some ⟨y, 0, none⟩), .pointer (some ⟨z, 0, none⟩)] W fun e W' => (∃ v, e = .returned v) ∧
      ((∃ ys, ys = (t.ris lo).takeWhile (fun r => lt r.1 hi) ∧ J ys W') ∨ (∃ pre, pre <+: (t.ris lo).takeWhile (fun r => lt r.1 hi) ∧ Jx pre W')) := by
  have hmf : ∀ (fn : Fn) (first cap : Array Value) (w : World), (Instr.makeFunc fn first cap).run Try.prog w = .ok (.func fn first cap) w := fun _ _ _ _ => rfl
  obtain ⟨ok, hok⟩ : ∃ ok : Rw → Bool, ok = fun r => lt r.1 hi := ⟨_, rfl⟩
  have c0 : W.cell? ⟨x, 0, none⟩ = some (.pointer p) := (h1.below hW h1.lt).at_ 0
  have c1 : W.cell? ⟨y, 0, none⟩ = some (.string lo) := (h2.below hW h2.lt).at_ 0
  have hx1 : x < W.heap.size := Nat.lt_of_lt_of_le h1.lt hW.size
  have hy1 : y < W.heap.size := Nat.lt_of_lt_of_le h2.lt hW.size
  have hz1 := h4.lt
  have hWa := hW.alloc hW.size (.cells #[.func (.yield l) #[] #[]] 46)
  have hp := hide (rising_c w0 (.func (.func 25) #[] #[.pointer (some ⟨z, 0, none⟩), .pointer (some ⟨W.heap.size, 0, none⟩)]) (some ⟨z, 0, none⟩) (some ⟨W.heap.size, 0, none⟩) rfl (t.ris lo).length lo
    (fun pre X => J pre X ∧ Blk X W.heap.size 46 #[.func (.yield l) #[] #[]] ∧ Below w0.heap.size w0 X ∧ ∀ r ∈ pre, ok r = true)
    (fun q r X => (ok r = true ∧ (∀ r ∈ q, ok r = true) ∧ Jx (q ++ [r]) X) ∨ (ok r = false ∧ (∀ r ∈ q, ok r = true) ∧ J q X))
    (fun s X hs => ⟨hJd _ _ _ hs.1 (Below.refl _ _).drew, hs.2.1, hs.2.2.1.drew, hs.2.2.2⟩)
    (fun m pre r X hs hlt => by
      obtain ⟨s1, s2, s3, s4⟩ := hs
      have d0 : X.cell? ⟨z, 0, none⟩ = some (.string hi) := (h4.below s3 h4.lt).at_ 0
      have d1 : X.cell? ⟨W.heap.size, 0, none⟩ = some (.func (.yield l) #[] #[]) := s2.at_ 0
      obtain ⟨k, v⟩ := r
      cases hk : lt k hi with
      | true =>
        have ho : ok (k, v) = true := by rw [hok]; simp [hk]
        refine range_yes l m z W.heap.size k v hi X _ hk d0 d1 (YieldAt.mono (yieldAt_any rfl (m - 1) (hY pre (k, v) X s1 hlt)) fun e W' h => ?_)
        rcases h with ⟨rfl, hj, hk2⟩ | ⟨rfl, hj⟩
        · refine ⟨.inl rfl, .inl ⟨rfl, ⟨hj, hk2.2 _ _ _ s2, s3.trans hk2.1, fun r hr => ?_⟩, hk2.1⟩⟩
          rcases List.mem_append.1 hr with hr | hr
          · exact s4 r hr
          · rw [List.mem_singleton.1 hr]; exact ho
        · exact ⟨.inr rfl, .inr ⟨rfl, .inl ⟨ho, s4, hj⟩⟩⟩
      | false =>
        have ho : ok (k, v) = false := by rw [hok]; simp [hk]
        exact range_no m z W.heap.size k v hi X _ hk d0 (.inr ⟨rfl, .inr ⟨ho, s4, s1⟩⟩))
    t (n - 1) p [] (W.alloc (.cells #[.func (.yield l) #[] #[]] 46)) h3 hWa ⟨hJd _ _ _ h0 ((Below.refl _ _).alloc (Nat.le_refl _) _), Blk.new _ _ _, hWa, fun r hr => by cases hr⟩ (by simp))
  rw [← hok]
  clear hY h0 hJd h1 h2 h3 h4 hW hWa hok
  refine callsIn_of_wp Try.func24 rfl trivial ?_ rfl
  simp only [Try.ntmps24, List.size_toArray, List.length_cons, List.length_nil, Nat.reduceAdd, Nat.reduceSub, Array.replicate_succ, Array.replicate_zero, List.push_toArray, List.append_toArray, List.nil_append, List.cons_append]
  gi_wp2_with fail
  refine ⟨trivial, fun h => (by cases h), ?_⟩
  refine (unhide hp).mono ?_
  clear hp
  rintro e W1 (⟨rfl, hJ1, _⟩ | ⟨rfl, q, r, hq, hx⟩)
  all_goals gi_wp2_with fail
  · go_end0
    refine ⟨⟨_, rfl⟩, .inl ⟨_, (take_all hJ1.2.2.2).symm, ?_⟩⟩
    simpa using hJ1.1
  · go_end0
    simp only [List.nil_append] at hx
    rcases hx with ⟨h1, h2, h3⟩ | ⟨h1, h2, h3⟩
    · exact ⟨⟨_, rfl⟩, .inr ⟨_, take_pre hq h2 h1, h3⟩⟩
    · exact ⟨⟨_, rfl⟩, .inl ⟨_, (take_stop hq h2 h1).symm, h3⟩⟩
theorem range_iter (w0 : World) (x y z : Nat) (p : Option Addr) (t : Tr) (lo hi : ByteArray) (h1 : Blk w0 x 49 #[.pointer p]) (h2 : Blk w0 y 9 #[.string lo]) (h4 : Blk w0 z 9 #[.string hi]) (h3 : At w0 t p) (hs : Sorted t.ino) :
    Tells w0 24 #[.pointer (some ⟨x, 0, none⟩), .pointer (some ⟨y, 0, none⟩), .pointer (some ⟨z, 0, none⟩)] (mid t.ino lo hi) t.cnt := by
  refine ⟨fun n hn w1 hw => ?_, enters_of Try.func24 (by kernel_rfl) rfl⟩
  rw [← range_tells hs lo hi]
  exact fun l J Jx W hW hJ _ hY h0 => range1_in n w0 l x y z p t lo hi J Jx W (fun s X Y hs hb => hJ s X Y none hs ⟨hb.os, hb.tape, hb.output, hb.size, fun k hk _ => hb.block k hk⟩ (fun r e => by cases e)) (fun pre x W h hl => hY pre x W h (Nat.lt_of_lt_of_le hl (ris_le t lo))) h1 h2 h4 h3 (hw.trans (hW.mono hw.size)) h0
set_option maxHeartbeats 2000000 in
theorem back_any (b : Nat) (p : Option Addr) (m : Int) (lo hi : ByteArray) (w : World) (h : Blk w b 51 #[.pointer p, .int .i64 m]) :
    Calls Try.prog 14 #[.pointer (some ⟨b, 0, none⟩), .string lo, .string hi] w fun e w' => ∃ x y z, e = .returned (.func (.func 26) #[] #[.pointer (some ⟨x, 0, none⟩), .pointer (some ⟨y, 0, none⟩), .pointer (some ⟨z, 0, none⟩)]) ∧
      Blk w' x 49 #[.pointer p] ∧ Blk w' y 9 #[.string hi] ∧ Blk w' z 9 #[.string lo] ∧ Below w.heap.size w w' := by
  have hmf : ∀ (fn : Fn) (first cap : Array Value) (w : World), (Instr.makeFunc fn first cap).run Try.prog w = .ok (.func fn first cap) w := fun _ _ _ _ => rfl
  have c0 : w.cell? ⟨b, 0, none⟩ = some (.pointer p) := h.at_ 0
  have hblt := h.lt
  clear h
  go_enter Try.func14, Try.ntmps14
  go_wp2_with fail
  go_ret
  exact ⟨w.heap.size + 1 + 1, w.heap.size + 1, w.heap.size, rfl, blk_new2 _ _ _ _ _ _ _, (blk_new' _ _ _ _ _).alloc _, ((Blk.new _ _ _).alloc _).alloc _, (((Below.refl _ _).alloc (Nat.le_refl _) _).alloc (by simp) _).alloc (by simp; omega) _⟩
set_option maxRecDepth 100000 in
set_option maxHeartbeats 4000000 in
theorem back1_in (n : Nat) (w0 : World) (l x y z : Nat) (p : Option Addr) (t : Tr) (lo hi : ByteArray) (J Jx : List Rw → World → Prop) (W : World) (hJd : ∀ s X Y, J s X → Below X.heap.size X Y → J s Y)
    (hY : ∀ pre x W, J pre W → pre.length < (t.fal hi).length → YieldAt Fence.wide (n - 1) Try.prog l (encR x) W fun e W' =>
      (e = .returned (.bool true) ∧ J (pre ++ [x]) W' ∧ Kf w0.heap.size W W') ∨ (e = .returned (.bool false) ∧ Jx (pre ++ [x]) W'))
    (h1 : Blk w0 x 49 #[.pointer p]) (h2 : Blk w0 y 9 #[.string hi]) (h4 : Blk w0 z 9 #[.string lo]) (h3 : At w0 t p) (hW : Below w0.heap.size w0 W) (h0 : J [] W) :
    CallsIn Fence.wide n Try.prog 26 #[.func (.yield l) #[] #[], .pointer (some ⟨x, 0, none⟩), .pointer (some ⟨y, 0, none⟩), .pointer (some ⟨z, 0, none⟩)] W fun e W' => (∃ v, e = .returned v) ∧
      ((∃ ys, ys = (t.fal hi).takeWhile (fun r => !lt r.1 lo) ∧ J ys W') ∨ (∃ pre, pre <+: (t.fal hi).takeWhile (fun r => !lt r.1 lo) ∧ Jx pre W')) := by
  have hmf : ∀ (fn : Fn) (first cap : Array Value) (w : World), (Instr.makeFunc fn first cap).run Try.prog w = .ok (.func fn first cap) w := fun _ _ _ _ => rfl
  obtain ⟨ok, hok⟩ : ∃ ok : Rw → Bool, ok = fun r => !lt r.1 lo := ⟨_, rfl⟩
  have c0 : W.cell? ⟨x, 0, none⟩ = some (.pointer p) := (h1.below hW h1.lt).at_ 0
  have c1 : W.cell? ⟨y, 0, none⟩ = some (.string hi) := (h2.below hW h2.lt).at_ 0
  have hx1 : x < W.heap.size := Nat.lt_of_lt_of_le h1.lt hW.size
  have hy1 : y < W.heap.size := Nat.lt_of_lt_of_le h2.lt hW.size
  have hz1 := h4.lt
  have hWa := hW.alloc hW.size (.cells #[.func (.yield l) #[] #[]] 46)
  have hp := hide (falling_c w0 (.func (.func 28) #[] #[.pointer (some ⟨z, 0, none⟩), .pointer (some ⟨W.heap.size, 0, none⟩)]) (some ⟨z, 0, none⟩) (some ⟨W.heap.size, 0, none⟩) rfl (t.fal hi).length hi
    (fun pre X => J pre X ∧ Blk X W.heap.size 46 #[.func (.yield l) #[] #[]] ∧ Below w0.heap.size w0 X ∧ ∀ r ∈ pre, ok r = true)
    (fun q r X => (ok r = true ∧ (∀ r ∈ q, ok r = true) ∧ Jx (q ++ [r]) X) ∨ (ok r = false ∧ (∀ r ∈ q, ok r = true) ∧ J q X))
    (fun s X hs => ⟨hJd _ _ _ hs.1 (Below.refl _ _).drew, hs.2.1, hs.2.2.1.drew, hs.2.2.2⟩)
    (fun m pre r X hs hlt => by
      obtain ⟨s1, s2, s3, s4⟩ := hs
      have d0 : X.cell? ⟨z, 0, none⟩ = some (.string lo) := (h4.below s3 h4.lt).at_ 0
      have d1 : X.cell? ⟨W.heap.size, 0, none⟩ = some (.func (.yield l) #[] #[]) := s2.at_ 0
      obtain ⟨k, v⟩ := r
      cases hk : lt k lo with
      | false =>
        have ho : ok (k, v) = true := by rw [hok]; simp [hk]
        refine back_yes l m z W.heap.size k v lo X _ hk d0 d1 (YieldAt.mono (yieldAt_any rfl (m - 1) (hY pre (k, v) X s1 hlt)) fun e W' h => ?_)
        rcases h with ⟨rfl, hj, hk2⟩ | ⟨rfl, hj⟩
        · refine ⟨.inl rfl, .inl ⟨rfl, ⟨hj, hk2.2 _ _ _ s2, s3.trans hk2.1, fun r hr => ?_⟩, hk2.1⟩⟩
          rcases List.mem_append.1 hr with hr | hr
          · exact s4 r hr
          · rw [List.mem_singleton.1 hr]; exact ho
        · exact ⟨.inr rfl, .inr ⟨rfl, .inl ⟨ho, s4, hj⟩⟩⟩
      | true =>
        have ho : ok (k, v) = false := by rw [hok]; simp [hk]
        exact back_no m z W.heap.size k v lo X _ hk d0 (.inr ⟨rfl, .inr ⟨ho, s4, s1⟩⟩))
    t (n - 1) p [] (W.alloc (.cells #[.func (.yield l) #[] #[]] 46)) h3 hWa ⟨hJd _ _ _ h0 ((Below.refl _ _).alloc (Nat.le_refl _) _), Blk.new _ _ _, hWa, fun r hr => by cases hr⟩ (by simp))
  rw [← hok]
  clear hY h0 hJd h1 h2 h3 h4 hW hWa hok
  refine callsIn_of_wp Try.func26 rfl trivial ?_ rfl
  simp only [Try.ntmps26, List.size_toArray, List.length_cons, List.length_nil, Nat.reduceAdd, Nat.reduceSub, Array.replicate_succ, Array.replicate_zero, List.push_toArray, List.append_toArray, List.nil_append, List.cons_append]
  gi_wp2_with fail
  refine ⟨trivial, fun h => (by cases h), ?_⟩
  refine (unhide hp).mono ?_
  clear hp
  rintro e W1 (⟨rfl, hJ1, _⟩ | ⟨rfl, q, r, hq, hx⟩)
  all_goals gi_wp2_with fail
  · go_end0
    refine ⟨⟨_, rfl⟩, .inl ⟨_, (take_all hJ1.2.2.2).symm, ?_⟩⟩
    simpa using hJ1.1
  · go_end0
    simp only [List.nil_append] at hx
    rcases hx with ⟨h1, h2, h3⟩ | ⟨h1, h2, h3⟩
    · exact ⟨⟨_, rfl⟩, .inr ⟨_, take_pre hq h2 h1, h3⟩⟩
    · exact ⟨⟨_, rfl⟩, .inl ⟨_, (take_stop hq h2 h1).symm, h3⟩⟩
theorem back_iter (w0 : World) (x y z : Nat) (p : Option Addr) (t : Tr) (lo hi : ByteArray) (h1 : Blk w0 x 49 #[.pointer p]) (h2 : Blk w0 y 9 #[.string hi]) (h4 : Blk w0 z 9 #[.string lo]) (h3 : At w0 t p) (hs : Sorted t.ino) :
    Tells w0 26 #[.pointer (some ⟨x, 0, none⟩), .pointer (some ⟨y, 0, none⟩), .pointer (some ⟨z, 0, none⟩)] ((mid t.ino lo hi).reverse) t.cnt := by
  refine ⟨fun n hn w1 hw => ?_, enters_of Try.func26 (by kernel_rfl) rfl⟩
  rw [← back_tells hs lo hi]
  exact fun l J Jx W hW hJ _ hY h0 => back1_in n w0 l x y z p t lo hi J Jx W (fun s X Y hs hb => hJ s X Y none hs ⟨hb.os, hb.tape, hb.output, hb.size, fun k hk _ => hb.block k hk⟩ (fun r e => by cases e)) (fun pre x W h hl => hY pre x W h (Nat.lt_of_lt_of_le hl (fal_le t hi))) h1 h2 h4 h3 (hw.trans (hW.mono hw.size)) h0
end Go.Proofs.Ytiffjjophmgdlaa
