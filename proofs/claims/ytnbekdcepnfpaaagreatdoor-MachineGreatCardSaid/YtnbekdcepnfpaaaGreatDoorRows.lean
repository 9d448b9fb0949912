/-
  NARROWER THAN 'FOR EVERY INPUT', by the rows' own cells (each row's printed sentence says how): MachineFresh: laid · MachineLists: laid · MachineSpawns: laid · MachineSleeps: laid · TopFloat: laid · MachineWaits: laid · MachineYields: laid · MachinePreempts: laid · MachineGreat: laid · MachineFaults: laid · MachineSwaps: laid · MachineKeeps: laid · MachineWides: laid · MachineDeeps: laid · MachineRings: laid · MachineOffs: laid.
  DERIVED. THE GIVEN ROWS OF THIS SEAT. 16 by the template 'for every input the law returns true; each argument reads behind the call as it read before'; 0 by the template 'total and deterministic' (their statements: YtnbekdcepnfpaaaGreatDoorTotals.lean).
  GIVEN WITH THE SEED: the statements are not yours to turn. If you find one false, say at which input.
  Laid BY PROGRAM, IN A SANDBOX (cutbox-rows.mjs): the forced cells as the released guide's own fill.sh prints them over the translation f7a0b10674c62d3e… (all of the seat's roots in one cut). By AI agents, Wed Nov 11 2026. No macro, syntax, notation, axiom, sorry.
-/
import Derived.Test.YtnbekdcepnfpaaaGreatDoorChecked
import GoSem.Claim
import GoSem.ClaimJoined
import GoSem.ClaimMapViews
import Derived.JoinedTies
import Derived.KernelRfl
namespace Go.Proofs.YtnbekdcepnfpaaaGreatDoor
/- THE CELL 'sum', in the pinned program and in every row, IS THE sha256 OF THE DUMP (.gsa) THAT YtnbekdcepnfpaaaGreatDoorProg.lean LOADS. Nothing in Lean hashes anything: it is a label: what it is worth is what the hold of that sum in a sandbox is worth. -/
noncomputable def Tryz.pinned : Pinned := { name := "ytnbekdcepnfpaaagreatdoor", sum := "f7a0b10674c62d3eeae34292b694a259a5b555715cbee115090d32b64974780d", checked := Tryz.checked }
namespace Rows
def none {H : Type} : Left H := { results := [], args := [] }

/- WHAT THE LISTED PACKAGE-LEVEL VARIABLES READ AS WHEN THE CALL BEGINS. Each datum BY PROGRAM (the guide's laid-datum.mjs) off the statement by which the dump's own 'gosem.cut.vars' lays the variable. In a bare row this is a premise. The card (YtnbekdcepnfpaaaGreatDoorCards.lean) ties it to the program's text. -/
def laid_math_bits_deBruijn64tab {H : Type} : DataW H := .agg [.lit (.int .u8 0), .lit (.int .u8 1), .lit (.int .u8 56), .lit (.int .u8 2), .lit (.int .u8 57), .lit (.int .u8 49), .lit (.int .u8 28), .lit (.int .u8 3), .lit (.int .u8 61), .lit (.int .u8 58), .lit (.int .u8 42), .lit (.int .u8 50), .lit (.int .u8 38), .lit (.int .u8 29), .lit (.int .u8 17), .lit (.int .u8 4), .lit (.int .u8 62), .lit (.int .u8 47), .lit (.int .u8 59), .lit (.int .u8 36), .lit (.int .u8 45), .lit (.int .u8 43), .lit (.int .u8 51), .lit (.int .u8 22), .lit (.int .u8 53), .lit (.int .u8 39), .lit (.int .u8 33), .lit (.int .u8 30), .lit (.int .u8 24), .lit (.int .u8 18), .lit (.int .u8 12), .lit (.int .u8 5), .lit (.int .u8 63), .lit (.int .u8 55), .lit (.int .u8 48), .lit (.int .u8 27), .lit (.int .u8 60), .lit (.int .u8 41), .lit (.int .u8 37), .lit (.int .u8 16), .lit (.int .u8 46), .lit (.int .u8 35), .lit (.int .u8 44), .lit (.int .u8 21), .lit (.int .u8 52), .lit (.int .u8 32), .lit (.int .u8 23), .lit (.int .u8 11), .lit (.int .u8 54), .lit (.int .u8 26), .lit (.int .u8 40), .lit (.int .u8 15), .lit (.int .u8 34), .lit (.int .u8 20), .lit (.int .u8 31), .lit (.int .u8 10), .lit (.int .u8 25), .lit (.int .u8 14), .lit (.int .u8 19), .lit (.int .u8 9), .lit (.int .u8 13), .lit (.int .u8 8), .lit (.int .u8 7), .lit (.int .u8 6)]

/-- 'treadmilllaw28.MachineFresh': WHATEVER THE INPUT: true; the input reads as it did. -/
def machineFreshSpec : ChangeSpec := { name := "machineFresh", fn := fun _ => fun
  | [d1, d2] => { results := [.lit (.bool true)], args := [d1, d2] }
  | _ => none }
def machineFreshRow : OpenClaim := { program := "ytnbekdcepnfpaaagreatdoor", sum := "f7a0b10674c62d3eeae34292b694a259a5b555715cbee115090d32b64974780d", func := "treadmill/treadmilllaw28.MachineFresh", spec := "machineFresh", inPlace := ["math.archFloor", "math.Float64bits", "math.Float64frombits", "math.archTrunc", "math/bits.Add64", "slices.overlaps[treadmill/api.Run]"], unfollowed := true, recurses := true, named := ["math/bits.divideError", "math/bits.overflowError", "math/bits.deBruijn64tab"], apart := false, laid := [("math/bits.deBruijn64tab", laid_math_bits_deBruijn64tab)] }
def MachineFreshSaid : Prop := machineFreshRow.holds Tryz.pinned (OpenSpec.ofChange machineFreshSpec)

/-- ITS FALSE NEIGHBOUR: 'it returns false'. Refute it at one input. -/
def machineFreshWrong : ChangeSpec := { name := "machineFresh", fn := fun _ => fun
  | [d1, d2] => { results := [.lit (.bool false)], args := [d1, d2] }
  | _ => none }
def MachineFreshWrongFalsely : Prop := machineFreshRow.holds Tryz.pinned (OpenSpec.ofChange machineFreshWrong)

/-- 'treadmilllaw28.MachineLists': WHATEVER THE INPUT: true; the input reads as it did. -/
def machineListsSpec : ChangeSpec := { name := "machineLists", fn := fun _ => fun
  | [d1, d2, d3] => { results := [.lit (.bool true)], args := [d1, d2, d3] }
  | _ => none }
def machineListsRow : OpenClaim := { program := "ytnbekdcepnfpaaagreatdoor", sum := "f7a0b10674c62d3eeae34292b694a259a5b555715cbee115090d32b64974780d", func := "treadmill/treadmilllaw28.MachineLists", spec := "machineLists", inPlace := ["math.archFloor", "math.Float64bits", "math.Float64frombits", "math.archTrunc", "math/bits.Add64", "slices.overlaps[treadmill/api.Run]"], unfollowed := true, recurses := true, named := ["math/bits.divideError", "math/bits.overflowError", "math/bits.deBruijn64tab"], apart := false, laid := [("math/bits.deBruijn64tab", laid_math_bits_deBruijn64tab)] }
def MachineListsSaid : Prop := machineListsRow.holds Tryz.pinned (OpenSpec.ofChange machineListsSpec)

/-- ITS FALSE NEIGHBOUR: 'it returns false'. Refute it at one input. -/
def machineListsWrong : ChangeSpec := { name := "machineLists", fn := fun _ => fun
  | [d1, d2, d3] => { results := [.lit (.bool false)], args := [d1, d2, d3] }
  | _ => none }
def MachineListsWrongFalsely : Prop := machineListsRow.holds Tryz.pinned (OpenSpec.ofChange machineListsWrong)

/-- 'treadmilllaw28.MachineSpawns': WHATEVER THE INPUT: true; the input reads as it did. -/
def machineSpawnsSpec : ChangeSpec := { name := "machineSpawns", fn := fun _ => fun
  | [d1, d2, d3] => { results := [.lit (.bool true)], args := [d1, d2, d3] }
  | _ => none }
def machineSpawnsRow : OpenClaim := { program := "ytnbekdcepnfpaaagreatdoor", sum := "f7a0b10674c62d3eeae34292b694a259a5b555715cbee115090d32b64974780d", func := "treadmill/treadmilllaw28.MachineSpawns", spec := "machineSpawns", inPlace := ["math.archFloor", "math.Float64bits", "math.Float64frombits", "math.archTrunc", "math/bits.Add64", "slices.overlaps[treadmill/api.Run]"], unfollowed := true, recurses := true, named := ["math/bits.divideError", "math/bits.overflowError", "math/bits.deBruijn64tab"], apart := false, laid := [("math/bits.deBruijn64tab", laid_math_bits_deBruijn64tab)] }
def MachineSpawnsSaid : Prop := machineSpawnsRow.holds Tryz.pinned (OpenSpec.ofChange machineSpawnsSpec)

/-- ITS FALSE NEIGHBOUR: 'it returns false'. Refute it at one input. -/
def machineSpawnsWrong : ChangeSpec := { name := "machineSpawns", fn := fun _ => fun
  | [d1, d2, d3] => { results := [.lit (.bool false)], args := [d1, d2, d3] }
  | _ => none }
def MachineSpawnsWrongFalsely : Prop := machineSpawnsRow.holds Tryz.pinned (OpenSpec.ofChange machineSpawnsWrong)

/-- 'treadmilllaw28.MachineSleeps': WHATEVER THE INPUT: true; the input reads as it did. -/
def machineSleepsSpec : ChangeSpec := { name := "machineSleeps", fn := fun _ => fun
  | [d1, d2, d3] => { results := [.lit (.bool true)], args := [d1, d2, d3] }
  | _ => none }
def machineSleepsRow : OpenClaim := { program := "ytnbekdcepnfpaaagreatdoor", sum := "f7a0b10674c62d3eeae34292b694a259a5b555715cbee115090d32b64974780d", func := "treadmill/treadmilllaw28.MachineSleeps", spec := "machineSleeps", inPlace := ["math.archFloor", "math.Float64bits", "math.Float64frombits", "math.archTrunc", "math/bits.Add64", "slices.overlaps[treadmill/api.Run]"], unfollowed := true, recurses := true, named := ["math/bits.divideError", "math/bits.overflowError", "math/bits.deBruijn64tab"], apart := false, laid := [("math/bits.deBruijn64tab", laid_math_bits_deBruijn64tab)] }
def MachineSleepsSaid : Prop := machineSleepsRow.holds Tryz.pinned (OpenSpec.ofChange machineSleepsSpec)

/-- ITS FALSE NEIGHBOUR: 'it returns false'. Refute it at one input. -/
def machineSleepsWrong : ChangeSpec := { name := "machineSleeps", fn := fun _ => fun
  | [d1, d2, d3] => { results := [.lit (.bool false)], args := [d1, d2, d3] }
  | _ => none }
def MachineSleepsWrongFalsely : Prop := machineSleepsRow.holds Tryz.pinned (OpenSpec.ofChange machineSleepsWrong)

/-- 'treadmilltop.TopFloat': WHATEVER THE INPUT: true; the input reads as it did. -/
def topFloatSpec : ChangeSpec := { name := "topFloat", fn := fun _ => fun
  | [d1, d2, d3] => { results := [.lit (.bool true)], args := [d1, d2, d3] }
  | _ => none }
def topFloatRow : OpenClaim := { program := "ytnbekdcepnfpaaagreatdoor", sum := "f7a0b10674c62d3eeae34292b694a259a5b555715cbee115090d32b64974780d", func := "treadmill/treadmilltop.TopFloat", spec := "topFloat", inPlace := ["math.archFloor", "math.Float64bits", "math.Float64frombits", "math.archTrunc", "math/bits.Add64", "slices.overlaps[treadmill/api.Run]"], unfollowed := true, recurses := true, named := ["math/bits.divideError", "math/bits.overflowError", "math/bits.deBruijn64tab"], apart := false, laid := [("math/bits.deBruijn64tab", laid_math_bits_deBruijn64tab)] }
def TopFloatSaid : Prop := topFloatRow.holds Tryz.pinned (OpenSpec.ofChange topFloatSpec)

/-- ITS FALSE NEIGHBOUR: 'it returns false'. Refute it at one input. -/
def topFloatWrong : ChangeSpec := { name := "topFloat", fn := fun _ => fun
  | [d1, d2, d3] => { results := [.lit (.bool false)], args := [d1, d2, d3] }
  | _ => none }
def TopFloatWrongFalsely : Prop := topFloatRow.holds Tryz.pinned (OpenSpec.ofChange topFloatWrong)

/-- 'treadmilllaw28.MachineWaits': WHATEVER THE INPUT: true; the input reads as it did. -/
def machineWaitsSpec : ChangeSpec := { name := "machineWaits", fn := fun _ => fun
  | [d1, d2] => { results := [.lit (.bool true)], args := [d1, d2] }
  | _ => none }
def machineWaitsRow : OpenClaim := { program := "ytnbekdcepnfpaaagreatdoor", sum := "f7a0b10674c62d3eeae34292b694a259a5b555715cbee115090d32b64974780d", func := "treadmill/treadmilllaw28.MachineWaits", spec := "machineWaits", inPlace := ["math.archFloor", "math.Float64bits", "math.Float64frombits", "math.archTrunc", "math/bits.Add64", "slices.overlaps[treadmill/api.Run]"], unfollowed := true, recurses := true, named := ["math/bits.divideError", "math/bits.overflowError", "math/bits.deBruijn64tab"], apart := false, laid := [("math/bits.deBruijn64tab", laid_math_bits_deBruijn64tab)] }
def MachineWaitsSaid : Prop := machineWaitsRow.holds Tryz.pinned (OpenSpec.ofChange machineWaitsSpec)

/-- ITS FALSE NEIGHBOUR: 'it returns false'. Refute it at one input. -/
def machineWaitsWrong : ChangeSpec := { name := "machineWaits", fn := fun _ => fun
  | [d1, d2] => { results := [.lit (.bool false)], args := [d1, d2] }
  | _ => none }
def MachineWaitsWrongFalsely : Prop := machineWaitsRow.holds Tryz.pinned (OpenSpec.ofChange machineWaitsWrong)

/-- 'treadmilllaw28.MachineYields': WHATEVER THE INPUT: true; the input reads as it did. -/
def machineYieldsSpec : ChangeSpec := { name := "machineYields", fn := fun _ => fun
  | [d1, d2, d3] => { results := [.lit (.bool true)], args := [d1, d2, d3] }
  | _ => none }
def machineYieldsRow : OpenClaim := { program := "ytnbekdcepnfpaaagreatdoor", sum := "f7a0b10674c62d3eeae34292b694a259a5b555715cbee115090d32b64974780d", func := "treadmill/treadmilllaw28.MachineYields", spec := "machineYields", inPlace := ["math.archFloor", "math.Float64bits", "math.Float64frombits", "math.archTrunc", "math/bits.Add64", "slices.overlaps[treadmill/api.Run]"], unfollowed := true, recurses := true, named := ["math/bits.divideError", "math/bits.overflowError", "math/bits.deBruijn64tab"], apart := false, laid := [("math/bits.deBruijn64tab", laid_math_bits_deBruijn64tab)] }
def MachineYieldsSaid : Prop := machineYieldsRow.holds Tryz.pinned (OpenSpec.ofChange machineYieldsSpec)

/-- ITS FALSE NEIGHBOUR: 'it returns false'. Refute it at one input. -/
def machineYieldsWrong : ChangeSpec := { name := "machineYields", fn := fun _ => fun
  | [d1, d2, d3] => { results := [.lit (.bool false)], args := [d1, d2, d3] }
  | _ => none }
def MachineYieldsWrongFalsely : Prop := machineYieldsRow.holds Tryz.pinned (OpenSpec.ofChange machineYieldsWrong)

/-- 'treadmilllaw28.MachinePreempts': WHATEVER THE INPUT: true; the input reads as it did. -/
def machinePreemptsSpec : ChangeSpec := { name := "machinePreempts", fn := fun _ => fun
  | [d1, d2, d3] => { results := [.lit (.bool true)], args := [d1, d2, d3] }
  | _ => none }
def machinePreemptsRow : OpenClaim := { program := "ytnbekdcepnfpaaagreatdoor", sum := "f7a0b10674c62d3eeae34292b694a259a5b555715cbee115090d32b64974780d", func := "treadmill/treadmilllaw28.MachinePreempts", spec := "machinePreempts", inPlace := ["math.archFloor", "math.Float64bits", "math.Float64frombits", "math.archTrunc", "math/bits.Add64", "slices.overlaps[treadmill/api.Run]"], unfollowed := true, recurses := true, named := ["math/bits.divideError", "math/bits.overflowError", "math/bits.deBruijn64tab"], apart := false, laid := [("math/bits.deBruijn64tab", laid_math_bits_deBruijn64tab)] }
def MachinePreemptsSaid : Prop := machinePreemptsRow.holds Tryz.pinned (OpenSpec.ofChange machinePreemptsSpec)

/-- ITS FALSE NEIGHBOUR: 'it returns false'. Refute it at one input. -/
def machinePreemptsWrong : ChangeSpec := { name := "machinePreempts", fn := fun _ => fun
  | [d1, d2, d3] => { results := [.lit (.bool false)], args := [d1, d2, d3] }
  | _ => none }
def MachinePreemptsWrongFalsely : Prop := machinePreemptsRow.holds Tryz.pinned (OpenSpec.ofChange machinePreemptsWrong)

/-- 'treadmilllaw28.MachineGreat': WHATEVER THE INPUT: true; the input reads as it did. -/
def machineGreatSpec : ChangeSpec := { name := "machineGreat", fn := fun _ => fun
  | [d1, d2] => { results := [.lit (.bool true)], args := [d1, d2] }
  | _ => none }
def machineGreatRow : OpenClaim := { program := "ytnbekdcepnfpaaagreatdoor", sum := "f7a0b10674c62d3eeae34292b694a259a5b555715cbee115090d32b64974780d", func := "treadmill/treadmilllaw28.MachineGreat", spec := "machineGreat", inPlace := ["math.archFloor", "math.Float64bits", "math.Float64frombits", "math.archTrunc", "math/bits.Add64", "slices.overlaps[treadmill/api.Run]"], unfollowed := true, recurses := true, named := ["math/bits.divideError", "math/bits.overflowError", "math/bits.deBruijn64tab"], apart := false, laid := [("math/bits.deBruijn64tab", laid_math_bits_deBruijn64tab)] }
def MachineGreatSaid : Prop := machineGreatRow.holds Tryz.pinned (OpenSpec.ofChange machineGreatSpec)

/-- ITS FALSE NEIGHBOUR: 'it returns false'. Refute it at one input. -/
def machineGreatWrong : ChangeSpec := { name := "machineGreat", fn := fun _ => fun
  | [d1, d2] => { results := [.lit (.bool false)], args := [d1, d2] }
  | _ => none }
def MachineGreatWrongFalsely : Prop := machineGreatRow.holds Tryz.pinned (OpenSpec.ofChange machineGreatWrong)

/-- 'treadmilllaw28.MachineFaults': WHATEVER THE INPUT: true; the input reads as it did. -/
def machineFaultsSpec : ChangeSpec := { name := "machineFaults", fn := fun _ => fun
  | [d1, d2, d3] => { results := [.lit (.bool true)], args := [d1, d2, d3] }
  | _ => none }
def machineFaultsRow : OpenClaim := { program := "ytnbekdcepnfpaaagreatdoor", sum := "f7a0b10674c62d3eeae34292b694a259a5b555715cbee115090d32b64974780d", func := "treadmill/treadmilllaw28.MachineFaults", spec := "machineFaults", inPlace := ["math.archFloor", "math.Float64bits", "math.Float64frombits", "math.archTrunc", "math/bits.Add64", "slices.overlaps[treadmill/api.Run]"], unfollowed := true, recurses := true, named := ["math/bits.divideError", "math/bits.overflowError", "math/bits.deBruijn64tab"], apart := false, laid := [("math/bits.deBruijn64tab", laid_math_bits_deBruijn64tab)] }
def MachineFaultsSaid : Prop := machineFaultsRow.holds Tryz.pinned (OpenSpec.ofChange machineFaultsSpec)

/-- ITS FALSE NEIGHBOUR: 'it returns false'. Refute it at one input. -/
def machineFaultsWrong : ChangeSpec := { name := "machineFaults", fn := fun _ => fun
  | [d1, d2, d3] => { results := [.lit (.bool false)], args := [d1, d2, d3] }
  | _ => none }
def MachineFaultsWrongFalsely : Prop := machineFaultsRow.holds Tryz.pinned (OpenSpec.ofChange machineFaultsWrong)

/-- 'treadmilllaw28.MachineSwaps': WHATEVER THE INPUT: true; the input reads as it did. -/
def machineSwapsSpec : ChangeSpec := { name := "machineSwaps", fn := fun _ => fun
  | [d1, d2, d3] => { results := [.lit (.bool true)], args := [d1, d2, d3] }
  | _ => none }
def machineSwapsRow : OpenClaim := { program := "ytnbekdcepnfpaaagreatdoor", sum := "f7a0b10674c62d3eeae34292b694a259a5b555715cbee115090d32b64974780d", func := "treadmill/treadmilllaw28.MachineSwaps", spec := "machineSwaps", inPlace := ["math.archFloor", "math.Float64bits", "math.Float64frombits", "math.archTrunc", "math/bits.Add64", "slices.overlaps[treadmill/api.Run]"], unfollowed := true, recurses := true, named := ["math/bits.divideError", "math/bits.overflowError", "math/bits.deBruijn64tab"], apart := false, laid := [("math/bits.deBruijn64tab", laid_math_bits_deBruijn64tab)] }
def MachineSwapsSaid : Prop := machineSwapsRow.holds Tryz.pinned (OpenSpec.ofChange machineSwapsSpec)

/-- ITS FALSE NEIGHBOUR: 'it returns false'. Refute it at one input. -/
def machineSwapsWrong : ChangeSpec := { name := "machineSwaps", fn := fun _ => fun
  | [d1, d2, d3] => { results := [.lit (.bool false)], args := [d1, d2, d3] }
  | _ => none }
def MachineSwapsWrongFalsely : Prop := machineSwapsRow.holds Tryz.pinned (OpenSpec.ofChange machineSwapsWrong)

/-- 'treadmilllaw28.MachineKeeps': WHATEVER THE INPUT: true; the input reads as it did. -/
def machineKeepsSpec : ChangeSpec := { name := "machineKeeps", fn := fun _ => fun
  | [d1, d2, d3] => { results := [.lit (.bool true)], args := [d1, d2, d3] }
  | _ => none }
def machineKeepsRow : OpenClaim := { program := "ytnbekdcepnfpaaagreatdoor", sum := "f7a0b10674c62d3eeae34292b694a259a5b555715cbee115090d32b64974780d", func := "treadmill/treadmilllaw28.MachineKeeps", spec := "machineKeeps", inPlace := ["math.archFloor", "math.Float64bits", "math.Float64frombits", "math.archTrunc", "math/bits.Add64", "slices.overlaps[treadmill/api.Run]"], unfollowed := true, recurses := true, named := ["math/bits.divideError", "math/bits.overflowError", "math/bits.deBruijn64tab"], apart := false, laid := [("math/bits.deBruijn64tab", laid_math_bits_deBruijn64tab)] }
def MachineKeepsSaid : Prop := machineKeepsRow.holds Tryz.pinned (OpenSpec.ofChange machineKeepsSpec)

/-- ITS FALSE NEIGHBOUR: 'it returns false'. Refute it at one input. -/
def machineKeepsWrong : ChangeSpec := { name := "machineKeeps", fn := fun _ => fun
  | [d1, d2, d3] => { results := [.lit (.bool false)], args := [d1, d2, d3] }
  | _ => none }
def MachineKeepsWrongFalsely : Prop := machineKeepsRow.holds Tryz.pinned (OpenSpec.ofChange machineKeepsWrong)

/-- 'treadmilllaw28.MachineWides': WHATEVER THE INPUT: true; the input reads as it did. -/
def machineWidesSpec : ChangeSpec := { name := "machineWides", fn := fun _ => fun
  | [d1, d2, d3] => { results := [.lit (.bool true)], args := [d1, d2, d3] }
  | _ => none }
def machineWidesRow : OpenClaim := { program := "ytnbekdcepnfpaaagreatdoor", sum := "f7a0b10674c62d3eeae34292b694a259a5b555715cbee115090d32b64974780d", func := "treadmill/treadmilllaw28.MachineWides", spec := "machineWides", inPlace := ["math.archFloor", "math.Float64bits", "math.Float64frombits", "math.archTrunc", "math/bits.Add64", "slices.overlaps[treadmill/api.Run]"], unfollowed := true, recurses := true, named := ["math/bits.divideError", "math/bits.overflowError", "math/bits.deBruijn64tab"], apart := false, laid := [("math/bits.deBruijn64tab", laid_math_bits_deBruijn64tab)] }
def MachineWidesSaid : Prop := machineWidesRow.holds Tryz.pinned (OpenSpec.ofChange machineWidesSpec)

/-- ITS FALSE NEIGHBOUR: 'it returns false'. Refute it at one input. -/
def machineWidesWrong : ChangeSpec := { name := "machineWides", fn := fun _ => fun
  | [d1, d2, d3] => { results := [.lit (.bool false)], args := [d1, d2, d3] }
  | _ => none }
def MachineWidesWrongFalsely : Prop := machineWidesRow.holds Tryz.pinned (OpenSpec.ofChange machineWidesWrong)

/-- 'treadmilllaw28.MachineDeeps': WHATEVER THE INPUT: true; the input reads as it did. -/
def machineDeepsSpec : ChangeSpec := { name := "machineDeeps", fn := fun _ => fun
  | [d1, d2] => { results := [.lit (.bool true)], args := [d1, d2] }
  | _ => none }
def machineDeepsRow : OpenClaim := { program := "ytnbekdcepnfpaaagreatdoor", sum := "f7a0b10674c62d3eeae34292b694a259a5b555715cbee115090d32b64974780d", func := "treadmill/treadmilllaw28.MachineDeeps", spec := "machineDeeps", inPlace := ["math.archFloor", "math.Float64bits", "math.Float64frombits", "math.archTrunc", "math/bits.Add64", "slices.overlaps[treadmill/api.Run]"], unfollowed := true, recurses := true, named := ["math/bits.divideError", "math/bits.overflowError", "math/bits.deBruijn64tab"], apart := false, laid := [("math/bits.deBruijn64tab", laid_math_bits_deBruijn64tab)] }
def MachineDeepsSaid : Prop := machineDeepsRow.holds Tryz.pinned (OpenSpec.ofChange machineDeepsSpec)

/-- ITS FALSE NEIGHBOUR: 'it returns false'. Refute it at one input. -/
def machineDeepsWrong : ChangeSpec := { name := "machineDeeps", fn := fun _ => fun
  | [d1, d2] => { results := [.lit (.bool false)], args := [d1, d2] }
  | _ => none }
def MachineDeepsWrongFalsely : Prop := machineDeepsRow.holds Tryz.pinned (OpenSpec.ofChange machineDeepsWrong)

/-- 'treadmilllaw28.MachineRings': WHATEVER THE INPUT: true; the input reads as it did. -/
def machineRingsSpec : ChangeSpec := { name := "machineRings", fn := fun _ => fun
  | [d1, d2, d3] => { results := [.lit (.bool true)], args := [d1, d2, d3] }
  | _ => none }
def machineRingsRow : OpenClaim := { program := "ytnbekdcepnfpaaagreatdoor", sum := "f7a0b10674c62d3eeae34292b694a259a5b555715cbee115090d32b64974780d", func := "treadmill/treadmilllaw28.MachineRings", spec := "machineRings", inPlace := ["math.archFloor", "math.Float64bits", "math.Float64frombits", "math.archTrunc", "math/bits.Add64", "slices.overlaps[treadmill/api.Run]"], unfollowed := true, recurses := true, named := ["math/bits.divideError", "math/bits.overflowError", "math/bits.deBruijn64tab"], apart := false, laid := [("math/bits.deBruijn64tab", laid_math_bits_deBruijn64tab)] }
def MachineRingsSaid : Prop := machineRingsRow.holds Tryz.pinned (OpenSpec.ofChange machineRingsSpec)

/-- ITS FALSE NEIGHBOUR: 'it returns false'. Refute it at one input. -/
def machineRingsWrong : ChangeSpec := { name := "machineRings", fn := fun _ => fun
  | [d1, d2, d3] => { results := [.lit (.bool false)], args := [d1, d2, d3] }
  | _ => none }
def MachineRingsWrongFalsely : Prop := machineRingsRow.holds Tryz.pinned (OpenSpec.ofChange machineRingsWrong)

/-- 'treadmilllaw28.MachineOffs': WHATEVER THE INPUT: true; the input reads as it did. -/
def machineOffsSpec : ChangeSpec := { name := "machineOffs", fn := fun _ => fun
  | [d1, d2, d3] => { results := [.lit (.bool true)], args := [d1, d2, d3] }
  | _ => none }
def machineOffsRow : OpenClaim := { program := "ytnbekdcepnfpaaagreatdoor", sum := "f7a0b10674c62d3eeae34292b694a259a5b555715cbee115090d32b64974780d", func := "treadmill/treadmilllaw28.MachineOffs", spec := "machineOffs", inPlace := ["math.archFloor", "math.Float64bits", "math.Float64frombits", "math.archTrunc", "math/bits.Add64", "slices.overlaps[treadmill/api.Run]"], unfollowed := true, recurses := true, named := ["math/bits.divideError", "math/bits.overflowError", "math/bits.deBruijn64tab"], apart := false, laid := [("math/bits.deBruijn64tab", laid_math_bits_deBruijn64tab)] }
def MachineOffsSaid : Prop := machineOffsRow.holds Tryz.pinned (OpenSpec.ofChange machineOffsSpec)

/-- ITS FALSE NEIGHBOUR: 'it returns false'. Refute it at one input. -/
def machineOffsWrong : ChangeSpec := { name := "machineOffs", fn := fun _ => fun
  | [d1, d2, d3] => { results := [.lit (.bool false)], args := [d1, d2, d3] }
  | _ => none }
def MachineOffsWrongFalsely : Prop := machineOffsRow.holds Tryz.pinned (OpenSpec.ofChange machineOffsWrong)

/- THE SECOND FORM. 'bulk': how many values and letters a reading holds, each counted each time it is reached (what is shared counts as often as it is met; a slice's spare places count too). A statement '..UptoSaid' is the law's where the arguments, and the package variables that the reading takes, are together of bulk at most 1048576: NARROWER than '..Said'. Prove '..Said' where nothing that the law and all that it calls make is longer than what came in: it says more and counts as full. Else prove '..UptoSaid'. A law counts once. -/
mutual
def uptoBulk {H : Type} : DataW H → Nat
  | .lit (.string bytes) => bytes.length + 1
  | .lit _ => 1
  | .nil => 1
  | .ptr d => uptoBulk d + 1
  | .slice elems spare => uptoBulkAll elems + uptoBulkAll spare + 1
  | .agg parts => uptoBulkAll parts + 1
  | .iface _ d => uptoBulk d + 1
  | .map entries => uptoBulkEntries entries + 1
  | .held _ => 1
def uptoBulkAll {H : Type} : List (DataW H) → Nat
  | [] => 0
  | d :: r => uptoBulk d + uptoBulkAll r
def uptoBulkEntries {H : Type} : List (Lit × DataW H) → Nat
  | [] => 0
  | x :: r => uptoBulkEntry x + uptoBulkEntries r
def uptoBulkEntry {H : Type} : Lit × DataW H → Nat
  | (.string bytes, d) => bytes.length + uptoBulk d + 1
  | (_, d) => uptoBulk d + 1
 end
def uptoSmall : (H : Type) → List (DataW H) → Bool := fun _ ds => decide (uptoBulkAll ds ≤ 1048576)
def OpenSpec.upto (s : _root_.Go.ChangeSpec) : _root_.Go.OpenSpec := { _root_.Go.OpenSpec.ofChange s with cond := some uptoSmall }

/-- 'treadmilllaw28.MachineFresh', WHERE WHAT IT READS IS OF BULK AT MOST 1048576: true; the input reads as it did. -/
def machineFreshUptoRow : OpenClaim := { program := "ytnbekdcepnfpaaagreatdoor", sum := "f7a0b10674c62d3eeae34292b694a259a5b555715cbee115090d32b64974780d", func := "treadmill/treadmilllaw28.MachineFresh", spec := "machineFresh", inPlace := ["math.archFloor", "math.Float64bits", "math.Float64frombits", "math.archTrunc", "math/bits.Add64", "slices.overlaps[treadmill/api.Run]"], unfollowed := true, recurses := true, named := ["math/bits.divideError", "math/bits.overflowError", "math/bits.deBruijn64tab"], apart := false, laid := [("math/bits.deBruijn64tab", laid_math_bits_deBruijn64tab)], narrowed := true }
def MachineFreshUptoSaid : Prop := machineFreshUptoRow.holds Tryz.pinned (OpenSpec.upto machineFreshSpec)

/-- 'treadmilllaw28.MachineLists', WHERE WHAT IT READS IS OF BULK AT MOST 1048576: true; the input reads as it did. -/
def machineListsUptoRow : OpenClaim := { program := "ytnbekdcepnfpaaagreatdoor", sum := "f7a0b10674c62d3eeae34292b694a259a5b555715cbee115090d32b64974780d", func := "treadmill/treadmilllaw28.MachineLists", spec := "machineLists", inPlace := ["math.archFloor", "math.Float64bits", "math.Float64frombits", "math.archTrunc", "math/bits.Add64", "slices.overlaps[treadmill/api.Run]"], unfollowed := true, recurses := true, named := ["math/bits.divideError", "math/bits.overflowError", "math/bits.deBruijn64tab"], apart := false, laid := [("math/bits.deBruijn64tab", laid_math_bits_deBruijn64tab)], narrowed := true }
def MachineListsUptoSaid : Prop := machineListsUptoRow.holds Tryz.pinned (OpenSpec.upto machineListsSpec)

/-- 'treadmilllaw28.MachineSpawns', WHERE WHAT IT READS IS OF BULK AT MOST 1048576: true; the input reads as it did. -/
def machineSpawnsUptoRow : OpenClaim := { program := "ytnbekdcepnfpaaagreatdoor", sum := "f7a0b10674c62d3eeae34292b694a259a5b555715cbee115090d32b64974780d", func := "treadmill/treadmilllaw28.MachineSpawns", spec := "machineSpawns", inPlace := ["math.archFloor", "math.Float64bits", "math.Float64frombits", "math.archTrunc", "math/bits.Add64", "slices.overlaps[treadmill/api.Run]"], unfollowed := true, recurses := true, named := ["math/bits.divideError", "math/bits.overflowError", "math/bits.deBruijn64tab"], apart := false, laid := [("math/bits.deBruijn64tab", laid_math_bits_deBruijn64tab)], narrowed := true }
def MachineSpawnsUptoSaid : Prop := machineSpawnsUptoRow.holds Tryz.pinned (OpenSpec.upto machineSpawnsSpec)

/-- 'treadmilllaw28.MachineSleeps', WHERE WHAT IT READS IS OF BULK AT MOST 1048576: true; the input reads as it did. -/
def machineSleepsUptoRow : OpenClaim := { program := "ytnbekdcepnfpaaagreatdoor", sum := "f7a0b10674c62d3eeae34292b694a259a5b555715cbee115090d32b64974780d", func := "treadmill/treadmilllaw28.MachineSleeps", spec := "machineSleeps", inPlace := ["math.archFloor", "math.Float64bits", "math.Float64frombits", "math.archTrunc", "math/bits.Add64", "slices.overlaps[treadmill/api.Run]"], unfollowed := true, recurses := true, named := ["math/bits.divideError", "math/bits.overflowError", "math/bits.deBruijn64tab"], apart := false, laid := [("math/bits.deBruijn64tab", laid_math_bits_deBruijn64tab)], narrowed := true }
def MachineSleepsUptoSaid : Prop := machineSleepsUptoRow.holds Tryz.pinned (OpenSpec.upto machineSleepsSpec)

/-- 'treadmilltop.TopFloat', WHERE WHAT IT READS IS OF BULK AT MOST 1048576: true; the input reads as it did. -/
def topFloatUptoRow : OpenClaim := { program := "ytnbekdcepnfpaaagreatdoor", sum := "f7a0b10674c62d3eeae34292b694a259a5b555715cbee115090d32b64974780d", func := "treadmill/treadmilltop.TopFloat", spec := "topFloat", inPlace := ["math.archFloor", "math.Float64bits", "math.Float64frombits", "math.archTrunc", "math/bits.Add64", "slices.overlaps[treadmill/api.Run]"], unfollowed := true, recurses := true, named := ["math/bits.divideError", "math/bits.overflowError", "math/bits.deBruijn64tab"], apart := false, laid := [("math/bits.deBruijn64tab", laid_math_bits_deBruijn64tab)], narrowed := true }
def TopFloatUptoSaid : Prop := topFloatUptoRow.holds Tryz.pinned (OpenSpec.upto topFloatSpec)

/-- 'treadmilllaw28.MachineWaits', WHERE WHAT IT READS IS OF BULK AT MOST 1048576: true; the input reads as it did. -/
def machineWaitsUptoRow : OpenClaim := { program := "ytnbekdcepnfpaaagreatdoor", sum := "f7a0b10674c62d3eeae34292b694a259a5b555715cbee115090d32b64974780d", func := "treadmill/treadmilllaw28.MachineWaits", spec := "machineWaits", inPlace := ["math.archFloor", "math.Float64bits", "math.Float64frombits", "math.archTrunc", "math/bits.Add64", "slices.overlaps[treadmill/api.Run]"], unfollowed := true, recurses := true, named := ["math/bits.divideError", "math/bits.overflowError", "math/bits.deBruijn64tab"], apart := false, laid := [("math/bits.deBruijn64tab", laid_math_bits_deBruijn64tab)], narrowed := true }
def MachineWaitsUptoSaid : Prop := machineWaitsUptoRow.holds Tryz.pinned (OpenSpec.upto machineWaitsSpec)

/-- 'treadmilllaw28.MachineYields', WHERE WHAT IT READS IS OF BULK AT MOST 1048576: true; the input reads as it did. -/
def machineYieldsUptoRow : OpenClaim := { program := "ytnbekdcepnfpaaagreatdoor", sum := "f7a0b10674c62d3eeae34292b694a259a5b555715cbee115090d32b64974780d", func := "treadmill/treadmilllaw28.MachineYields", spec := "machineYields", inPlace := ["math.archFloor", "math.Float64bits", "math.Float64frombits", "math.archTrunc", "math/bits.Add64", "slices.overlaps[treadmill/api.Run]"], unfollowed := true, recurses := true, named := ["math/bits.divideError", "math/bits.overflowError", "math/bits.deBruijn64tab"], apart := false, laid := [("math/bits.deBruijn64tab", laid_math_bits_deBruijn64tab)], narrowed := true }
def MachineYieldsUptoSaid : Prop := machineYieldsUptoRow.holds Tryz.pinned (OpenSpec.upto machineYieldsSpec)

/-- 'treadmilllaw28.MachinePreempts', WHERE WHAT IT READS IS OF BULK AT MOST 1048576: true; the input reads as it did. -/
def machinePreemptsUptoRow : OpenClaim := { program := "ytnbekdcepnfpaaagreatdoor", sum := "f7a0b10674c62d3eeae34292b694a259a5b555715cbee115090d32b64974780d", func := "treadmill/treadmilllaw28.MachinePreempts", spec := "machinePreempts", inPlace := ["math.archFloor", "math.Float64bits", "math.Float64frombits", "math.archTrunc", "math/bits.Add64", "slices.overlaps[treadmill/api.Run]"], unfollowed := true, recurses := true, named := ["math/bits.divideError", "math/bits.overflowError", "math/bits.deBruijn64tab"], apart := false, laid := [("math/bits.deBruijn64tab", laid_math_bits_deBruijn64tab)], narrowed := true }
def MachinePreemptsUptoSaid : Prop := machinePreemptsUptoRow.holds Tryz.pinned (OpenSpec.upto machinePreemptsSpec)

/-- 'treadmilllaw28.MachineGreat', WHERE WHAT IT READS IS OF BULK AT MOST 1048576: true; the input reads as it did. -/
def machineGreatUptoRow : OpenClaim := { program := "ytnbekdcepnfpaaagreatdoor", sum := "f7a0b10674c62d3eeae34292b694a259a5b555715cbee115090d32b64974780d", func := "treadmill/treadmilllaw28.MachineGreat", spec := "machineGreat", inPlace := ["math.archFloor", "math.Float64bits", "math.Float64frombits", "math.archTrunc", "math/bits.Add64", "slices.overlaps[treadmill/api.Run]"], unfollowed := true, recurses := true, named := ["math/bits.divideError", "math/bits.overflowError", "math/bits.deBruijn64tab"], apart := false, laid := [("math/bits.deBruijn64tab", laid_math_bits_deBruijn64tab)], narrowed := true }
def MachineGreatUptoSaid : Prop := machineGreatUptoRow.holds Tryz.pinned (OpenSpec.upto machineGreatSpec)

/-- 'treadmilllaw28.MachineFaults', WHERE WHAT IT READS IS OF BULK AT MOST 1048576: true; the input reads as it did. -/
def machineFaultsUptoRow : OpenClaim := { program := "ytnbekdcepnfpaaagreatdoor", sum := "f7a0b10674c62d3eeae34292b694a259a5b555715cbee115090d32b64974780d", func := "treadmill/treadmilllaw28.MachineFaults", spec := "machineFaults", inPlace := ["math.archFloor", "math.Float64bits", "math.Float64frombits", "math.archTrunc", "math/bits.Add64", "slices.overlaps[treadmill/api.Run]"], unfollowed := true, recurses := true, named := ["math/bits.divideError", "math/bits.overflowError", "math/bits.deBruijn64tab"], apart := false, laid := [("math/bits.deBruijn64tab", laid_math_bits_deBruijn64tab)], narrowed := true }
def MachineFaultsUptoSaid : Prop := machineFaultsUptoRow.holds Tryz.pinned (OpenSpec.upto machineFaultsSpec)

/-- 'treadmilllaw28.MachineSwaps', WHERE WHAT IT READS IS OF BULK AT MOST 1048576: true; the input reads as it did. -/
def machineSwapsUptoRow : OpenClaim := { program := "ytnbekdcepnfpaaagreatdoor", sum := "f7a0b10674c62d3eeae34292b694a259a5b555715cbee115090d32b64974780d", func := "treadmill/treadmilllaw28.MachineSwaps", spec := "machineSwaps", inPlace := ["math.archFloor", "math.Float64bits", "math.Float64frombits", "math.archTrunc", "math/bits.Add64", "slices.overlaps[treadmill/api.Run]"], unfollowed := true, recurses := true, named := ["math/bits.divideError", "math/bits.overflowError", "math/bits.deBruijn64tab"], apart := false, laid := [("math/bits.deBruijn64tab", laid_math_bits_deBruijn64tab)], narrowed := true }
def MachineSwapsUptoSaid : Prop := machineSwapsUptoRow.holds Tryz.pinned (OpenSpec.upto machineSwapsSpec)

/-- 'treadmilllaw28.MachineKeeps', WHERE WHAT IT READS IS OF BULK AT MOST 1048576: true; the input reads as it did. -/
def machineKeepsUptoRow : OpenClaim := { program := "ytnbekdcepnfpaaagreatdoor", sum := "f7a0b10674c62d3eeae34292b694a259a5b555715cbee115090d32b64974780d", func := "treadmill/treadmilllaw28.MachineKeeps", spec := "machineKeeps", inPlace := ["math.archFloor", "math.Float64bits", "math.Float64frombits", "math.archTrunc", "math/bits.Add64", "slices.overlaps[treadmill/api.Run]"], unfollowed := true, recurses := true, named := ["math/bits.divideError", "math/bits.overflowError", "math/bits.deBruijn64tab"], apart := false, laid := [("math/bits.deBruijn64tab", laid_math_bits_deBruijn64tab)], narrowed := true }
def MachineKeepsUptoSaid : Prop := machineKeepsUptoRow.holds Tryz.pinned (OpenSpec.upto machineKeepsSpec)

/-- 'treadmilllaw28.MachineWides', WHERE WHAT IT READS IS OF BULK AT MOST 1048576: true; the input reads as it did. -/
def machineWidesUptoRow : OpenClaim := { program := "ytnbekdcepnfpaaagreatdoor", sum := "f7a0b10674c62d3eeae34292b694a259a5b555715cbee115090d32b64974780d", func := "treadmill/treadmilllaw28.MachineWides", spec := "machineWides", inPlace := ["math.archFloor", "math.Float64bits", "math.Float64frombits", "math.archTrunc", "math/bits.Add64", "slices.overlaps[treadmill/api.Run]"], unfollowed := true, recurses := true, named := ["math/bits.divideError", "math/bits.overflowError", "math/bits.deBruijn64tab"], apart := false, laid := [("math/bits.deBruijn64tab", laid_math_bits_deBruijn64tab)], narrowed := true }
def MachineWidesUptoSaid : Prop := machineWidesUptoRow.holds Tryz.pinned (OpenSpec.upto machineWidesSpec)

/-- 'treadmilllaw28.MachineDeeps', WHERE WHAT IT READS IS OF BULK AT MOST 1048576: true; the input reads as it did. -/
def machineDeepsUptoRow : OpenClaim := { program := "ytnbekdcepnfpaaagreatdoor", sum := "f7a0b10674c62d3eeae34292b694a259a5b555715cbee115090d32b64974780d", func := "treadmill/treadmilllaw28.MachineDeeps", spec := "machineDeeps", inPlace := ["math.archFloor", "math.Float64bits", "math.Float64frombits", "math.archTrunc", "math/bits.Add64", "slices.overlaps[treadmill/api.Run]"], unfollowed := true, recurses := true, named := ["math/bits.divideError", "math/bits.overflowError", "math/bits.deBruijn64tab"], apart := false, laid := [("math/bits.deBruijn64tab", laid_math_bits_deBruijn64tab)], narrowed := true }
def MachineDeepsUptoSaid : Prop := machineDeepsUptoRow.holds Tryz.pinned (OpenSpec.upto machineDeepsSpec)

/-- 'treadmilllaw28.MachineRings', WHERE WHAT IT READS IS OF BULK AT MOST 1048576: true; the input reads as it did. -/
def machineRingsUptoRow : OpenClaim := { program := "ytnbekdcepnfpaaagreatdoor", sum := "f7a0b10674c62d3eeae34292b694a259a5b555715cbee115090d32b64974780d", func := "treadmill/treadmilllaw28.MachineRings", spec := "machineRings", inPlace := ["math.archFloor", "math.Float64bits", "math.Float64frombits", "math.archTrunc", "math/bits.Add64", "slices.overlaps[treadmill/api.Run]"], unfollowed := true, recurses := true, named := ["math/bits.divideError", "math/bits.overflowError", "math/bits.deBruijn64tab"], apart := false, laid := [("math/bits.deBruijn64tab", laid_math_bits_deBruijn64tab)], narrowed := true }
def MachineRingsUptoSaid : Prop := machineRingsUptoRow.holds Tryz.pinned (OpenSpec.upto machineRingsSpec)

/-- 'treadmilllaw28.MachineOffs', WHERE WHAT IT READS IS OF BULK AT MOST 1048576: true; the input reads as it did. -/
def machineOffsUptoRow : OpenClaim := { program := "ytnbekdcepnfpaaagreatdoor", sum := "f7a0b10674c62d3eeae34292b694a259a5b555715cbee115090d32b64974780d", func := "treadmill/treadmilllaw28.MachineOffs", spec := "machineOffs", inPlace := ["math.archFloor", "math.Float64bits", "math.Float64frombits", "math.archTrunc", "math/bits.Add64", "slices.overlaps[treadmill/api.Run]"], unfollowed := true, recurses := true, named := ["math/bits.divideError", "math/bits.overflowError", "math/bits.deBruijn64tab"], apart := false, laid := [("math/bits.deBruijn64tab", laid_math_bits_deBruijn64tab)], narrowed := true }
def MachineOffsUptoSaid : Prop := machineOffsUptoRow.holds Tryz.pinned (OpenSpec.upto machineOffsSpec)

end Rows
end Go.Proofs.YtnbekdcepnfpaaaGreatDoor
