/-
  Layer 11: From and its iterator.
-/
import Derived.Test.YtiffjjophmgdlaaRis
namespace Go.Proofs.Ytiffjjophmgdlaa
open Go.RowKit Tb
attribute [local go_sem] Oper.semAt_some

theorem blk_new' (W : World) (c1 c2 : Array Value) (t1 t2 : TypeId) : Blk ((W.alloc (.cells c1 t1)).alloc (.cells c2 t2)) (W.heap.size + 1) t2 c2 := by
  have := Blk.new (W.alloc (.cells c1 t1)) c2 t2
  rw [World.size_alloc] at this
  exact this
set_option maxHeartbeats 2000000 in
theorem from_any (b : Nat) (p : Option Addr) (m : Int) (lo : ByteArray) (w : World) (h : Blk w b 51 #[.pointer p, .int .i64 m]) :
    Calls Try.prog 12 #[.pointer (some ⟨b, 0, none⟩), .string lo] w fun e w' => ∃ x y, e = .returned (.func (.func 22) #[] #[.pointer (some ⟨x, 0, none⟩), .pointer (some ⟨y, 0, none⟩)]) ∧ w.heap.size ≤ x ∧ w.heap.size ≤ y ∧
      Blk w' x 49 #[.pointer p] ∧ Blk w' y 9 #[.string lo] ∧ Below w.heap.size w w' := by
  have hmf : ∀ (fn : Fn) (first cap : Array Value) (w : World), (Instr.makeFunc fn first cap).run Try.prog w = .ok (.func fn first cap) w := fun _ _ _ _ => rfl
  have c0 : w.cell? ⟨b, 0, none⟩ = some (.pointer p) := h.at_ 0
  have hblt := h.lt
  clear h
  go_enter Try.func12, Try.ntmps12
  go_wp2_with fail
  go_ret
  exact ⟨w.heap.size + 1, w.heap.size, rfl, Nat.le_succ _, Nat.le_refl _, blk_new' _ _ _ _ _, (Blk.new _ _ _).alloc _, ((Below.refl _ _).alloc (Nat.le_refl _) _).alloc (by simp) _⟩
set_option maxHeartbeats 4000000 in
theorem from1_in (n : Nat) (hn : 1 ≤ n) (w0 : World) (l x y : Nat) (p : Option Addr) (t : Tr) (lo : ByteArray) (J Jx : List Rw → World → Prop) (hJd : ∀ s X, J s X → J s X.drew)
    (hY : ∀ pre x W, J pre W → pre.length < (t.ris lo).length → YieldAt Fence.wide (n - 1) Try.prog l (encR x) W fun e W' =>
      (e = .returned (.bool true) ∧ J (pre ++ [x]) W' ∧ Below w0.heap.size W W') ∨ (e = .returned (.bool false) ∧ Jx (pre ++ [x]) W'))
    (W : World) (h1 : Blk W x 49 #[.pointer p]) (h2 : Blk W y 9 #[.string lo]) (h3 : At w0 t p) (hW : Below w0.heap.size w0 W) (h0 : J [] W) :
    CallsIn Fence.wide n Try.prog 22 #[.func (.yield l) #[] #[], .pointer (some ⟨x, 0, none⟩), .pointer (some ⟨y, 0, none⟩)] W fun e W' => (∃ v, e = .returned v) ∧
      ((∃ ys, ys = t.ris lo ∧ J ys W') ∨ (∃ pre, pre <+: t.ris lo ∧ Jx pre W')) := by
  have c0 : W.cell? ⟨x, 0, none⟩ = some (.pointer p) := h1.at_ 0
  have c1 : W.cell? ⟨y, 0, none⟩ = some (.string lo) := h2.at_ 0
  have hp := hide (rising_in w0 l (t.ris lo).length lo J Jx hJd (fun m pre x W hj hl => yieldAt_any rfl m (hY pre x W hj hl)) t (n - 1) p [] W h3 hW h0 (by simp))
  clear hY h0 hJd h1 h2 h3
  refine callsIn_of_wp Try.func22 rfl trivial ?_ rfl
  simp only [Try.ntmps22, List.size_toArray, List.length_cons, List.length_nil, Nat.reduceAdd, Nat.reduceSub, Array.replicate_succ, Array.replicate_zero, List.push_toArray, List.append_toArray, List.nil_append, List.cons_append]
  gi_wp2_with fail
  refine ⟨trivial, ?_⟩
  refine (unhide hp).mono ?_
  clear hp
  rintro e W1 (⟨rfl, hJ1, _⟩ | ⟨rfl, q, hq, hx⟩)
  all_goals gi_wp2_with fail
  · go_end0
    exact ⟨⟨_, rfl⟩, .inl ⟨_, rfl, by simpa using hJ1⟩⟩
  · go_end0
    exact ⟨⟨_, rfl⟩, .inr ⟨q, hq, by simpa using hx⟩⟩
/-- The iterator: the tree lies in the elder world w0, what it has captured in the world w1 where the loop begins. -/
theorem from_stops (n : Nat) (hn : 1 ≤ n) (x y : Nat) (p : Option Addr) (t : Tr) (lo : ByteArray) (w0 w1 : World) (h1 : Blk w1 x 49 #[.pointer p]) (h2 : Blk w1 y 9 #[.string lo]) (h3 : At w0 t p) (hw : Below w0.heap.size w0 w1) :
    SeqStopsK Fence.wide n Try.prog 22 #[.pointer (some ⟨x, 0, none⟩), .pointer (some ⟨y, 0, none⟩)] encR (Below w0.heap.size) (fun ys => ys = t.ris lo) (fun pre => pre <+: t.ris lo) (t.ris lo).length w1 := fun l J Jx W hW hJ _ hY h0 =>
  from1_in n hn w0 l x y p t lo J Jx (fun s X hs => hJ s X X.drew none hs ⟨rfl, rfl, rfl, Nat.le_refl _, fun _ _ _ => rfl⟩ (fun r e => by cases e)) hY W (h1.below hW h1.lt) (h2.below hW h2.lt) h3 (hw.trans (hW.mono hw.size)) h0
end Go.Proofs.Ytiffjjophmgdlaa
