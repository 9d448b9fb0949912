/- Facts of the whole program, third part: its own module, and that no parameter of the laws wants a stand-in. -/
import Derived.Test.YtnbekdcepnfpaaaGreatDoorRW
set_option linter.unusedVariables false
set_option maxRecDepth 100000
namespace Go.E
open Go Go.Proofs
theorem pkL : Tryz.prog.looks [] = true := by kernel_rfl
theorem pkW24 : Tryz.prog.wantsStandIn 24 = false := by kernel_rfl
theorem pkW3 : Tryz.prog.wantsStandIn 3 = false := by kernel_rfl
theorem pkM : Tryz.prog.mainIs = some (true, "a92ea1300edcac1fe5a6ab3cfda3c535aec35ae7aa7f61646b37891c2928003c".toList) := by kernel_rfl
theorem pkG : false = YtnbekdcepnfpaaaGreatDoor.Rows.machineFreshRow.goesBy Tryz.prog := by kernel_rfl
end Go.E
