/-
  Walks over layer 7: Ends.
-/
import Derived.Test.YtffmekcpkilkoaaDoorGet
import Derived.Lib.Strings
namespace Go.Proofs.YtffmekcpkilkoaaDoor
open Go.RowKit

theorem extract_end (s : ByteArray) (a : Nat) : (s.extract a s.size).data.toList = s.data.toList.drop a := by
  rw [Lib.extract_data]
  exact List.take_of_length_le (by simp)
theorem quiet_of_left {P : Program} {f : FuncId} {args : Array Value} {w : World} {n : Nat} {v : Value}
    (h : Calls P f args (w.drewN n) fun e w' => e = .returned v ∧ w.drewN n = w') : Calls P f args (w.drewN n) fun e w'' => e = .returned v ∧ ∃ m, w'' = w.drewN m :=
  h.mono fun _ _ ⟨he, hm⟩ => ⟨he, n, hm.symm⟩
theorem results_tmp3' {fn : Func} {t u v : Tmp} (h : fn.results = #[.tmp t, .tmp u, .tmp v]) (tmps : Array Value) (P : Program) (w : World) :
    (results fn tmps).run P w = .ok (.tuple #[tmps.getD t undef, tmps.getD u undef, tmps.getD v undef]) w := by
  simp [results, h]
theorem get8 (s : ByteArray) (l : List UInt8) (hl : s.data.toList = l) (hlen : 8 ≤ s.size) (w : World) :
    Calls Tryd.prog 25 #[.string s, .int .i64 8] w fun e w' => e = .returned (.int .u64 (getN l 8)) ∧ w = w' := get_any s l hl 8 (by omega) hlen w
set_option maxHeartbeats 2000000 in
theorem ends_yes (s : ByteArray) (l : List UInt8) (hl : s.data.toList = l) (hs : s.size = 256) (w : World) :
    Calls Tryd.prog 15 #[.string s] w fun e w' => e = .returned (.tuple #[.int .u64 (getN l 8), .int .u64 (getN (l.drop 248) 8), .nilIface]) ∧ ∃ k, w' = w.drewN k := by
  have e1 : ((s.size : Int) != 256) = false := by rw [hs]; rfl
  have hsz : (s.extract 248 s.size).size = 8 := by simp [hs]
  have g1 := fun n : Nat => quiet_of_left (get8 s l hl (by omega) (w.drewN n))
  have g2 := fun n : Nat => quiet_of_left (get8 (s.extract 248 s.size) (l.drop 248) (by rw [extract_end, hl]) (by omega) (w.drewN n))
  have h1 : (248 : Int) ≤ (s.size : Int) := by omega
  have h2 : 248 ≤ s.size := by omega
  clear hl hs hsz
  go_enter Tryd.func15, Tryd.ntmps15
  go_wp2
  go_quiet ((go_at_call 25; first | with_reducible exact g1 _ | with_reducible exact g2 _))
  go_wp2
  refine bodyPost_ret (results_tmp3' rfl _ _ _) rfl ⟨rfl, _, rfl⟩
end Go.Proofs.YtffmekcpkilkoaaDoor
