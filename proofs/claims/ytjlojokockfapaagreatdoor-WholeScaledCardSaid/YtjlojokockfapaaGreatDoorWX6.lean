import Derived.Test.YtjlojokockfapaaGreatDoorProg
import Derived.Test.YtjlojokockfapaaGreatDoorWX5
namespace Go.Proofs.YtjlojokockfapaaGreatDoor
open Go Go.ChangeShapes Go.WideShapes Go.ChangeAt Go.RowKit
set_option linter.unusedVariables false

theorem own : ownKnob Tryz.prog.godebug = none := by kernel_rfl
theorem laidOut : laidOutB Tryz.prog = true := by kernel_rfl

end Go.Proofs.YtjlojokockfapaaGreatDoor

