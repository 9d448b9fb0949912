/- Facts of the whole program, second part: how it was made. -/
import Derived.Test.YtnbekdcepnfpaaaGreatDoorRW
set_option linter.unusedVariables false
set_option maxRecDepth 100000
namespace Go.E
open Go Go.Proofs
theorem pk25 : Tryz.prog.mayEnter = true := by kernel_rfl
theorem pk26 : Tryz.prog.liftsFinal = YtnbekdcepnfpaaaGreatDoor.Rows.machineFreshRow.lifted := by kernel_rfl
theorem pk27 : Tryz.prog.make = some YtnbekdcepnfpaaaGreatDoor.Rows.machineFreshRow.make := by kernel_rfl
end Go.E
