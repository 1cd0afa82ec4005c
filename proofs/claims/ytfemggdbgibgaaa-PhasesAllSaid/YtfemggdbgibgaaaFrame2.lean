/-
  Layer 22: what a row's proof by returnsInHanded_of_row uses besides.
-/
import Derived.Test.YtfemggdbgibgaaaFrame
import Derived.Deep.DeepHandedRow
import Derived.Deep.DeepWitnessRowRef
import Derived.LaidMore
import Derived.SizedLaws
import Derived.OpenShut
namespace Go.Proofs.Ytfemggdbgibgaaa
open Go.RowKit Go.WideShapes Go.ChangeShapes Go.ChangeAt

theorem own : ownKnob Try.prog.godebug = none := by kernel_rfl
theorem laidMet_nil (P : Program) (w : World) : laidMet P [] w := ⟨[], rfl, List.nodup_nil, fun _ _ h => by cases h⟩
end Go.Proofs.Ytfemggdbgibgaaa
