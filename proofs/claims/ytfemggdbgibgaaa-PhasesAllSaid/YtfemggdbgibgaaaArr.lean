/-
  Layer 22: '!=' on two arrays of two numbers.
-/
import Derived.Test.YtfemggdbgibgaaaPairs
import Derived.ChangeKeysEq
namespace Go.Proofs.Ytfemggdbgibgaaa
open Go.RowKit

theorem cellsInt : Try.prog.cellsOf 3 = 1 := by kernel_rfl
theorem infoInt : (Try.prog.info? 3).map (fun i => (i.zero, i.size, i.bytes)) = some (some (.int .i64 0), 1, 8) := by kernel_rfl
theorem run_eq2 (W : World) (q b p a : Int) : (Op.equalIn 10000 25 (.agg #[.int .i64 q, .int .i64 b]) (.agg #[.int .i64 p, .int .i64 a])).run Try.prog W = .ok (q == p && b == a) W := by
  obtain ⟨i, hi, hz, hs, hb⟩ := info_parts infoInt
  rw [run_equalIn_array W 9999 _ _ Try.underlying25 hi, cellsInt]
  have hr : List.range 2 = [0, 1] := rfl
  have e0 : ∀ (W : World) (x y : Int), (Op.equalIn 9999 3 (.int .i64 x) (.int .i64 y)).run Try.prog W = .ok (x == y) W := fun W x y => run_equalIn_int W 9998 _ _ _ _ _ Try.underlying3
  rw [hr]
  simp only [Op.eqItems]
  have p0 : ∀ (W : World) (x y : Int), (part 3 #[.int .i64 x, .int .i64 y] (0 * 1)).run Try.prog W = .ok (.int .i64 x) W := fun W x y => by simp [part, isAgg, run_underlying Try.underlying3, sizeOf, typeInfo, hi, hs]
  have p1 : ∀ (W : World) (x y : Int), (part 3 #[.int .i64 x, .int .i64 y] 1).run Try.prog W = .ok (.int .i64 y) W := fun W x y => by simp [part, isAgg, run_underlying Try.underlying3, sizeOf, typeInfo, hi, hs]
  simp only [Sem.run_bind, p0, e0, Result.andThen_ok]
  cases (q == p)
  · simp
  · simp only [Bool.not_true, Bool.false_eq_true, if_false, Sem.run_bind, Nat.one_mul, p1, e0, Result.andThen_ok, Bool.true_and]
    cases (b == a) <;> simp
theorem run_neq2 (W : World) (q b p a : Int) : (binOp .neq 25 (.agg #[.int .i64 q, .int .i64 b]) (.agg #[.int .i64 p, .int .i64 a])).run Try.prog W = .ok (.bool (!(q == p && b == a))) W := by
  simp only [binOp]
  simp [Op.equal, Op.maxDepth, run_eq2]
end Go.Proofs.Ytfemggdbgibgaaa
