/- Facts of the whole program, first part: the types and the functions are laid out. -/
import Derived.Test.YtnbekdcepnfpaaaGreatDoorRW
set_option linter.unusedVariables false
set_option maxRecDepth 100000
namespace Go.E
open Go Go.Proofs
theorem pk1 : laidOutB Tryz.prog = true := by kernel_rfl
theorem pk2 : mapsRowed Tryz.prog = true := by kernel_rfl
theorem pk22 : Tryz.prog.plainKeys = true := by kernel_rfl
theorem pk24 : Tryz.prog.stopsHeard = true := by kernel_rfl
theorem pk6 : Tryz.prog.stops = [] := by kernel_rfl
theorem pk8 : Tryz.prog.stopKnobs = [] := by kernel_rfl
end Go.E
