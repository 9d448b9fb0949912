/-
  DERIVED. GIVEN WITH THE SEED: THE CARDS: each row of YtnbekdcepnfpaaaGreatDoorRows.lean that lists a variable, with what it lists TIED to the program's text (the seventh form; the later family's looks); each row that meets fmt, with fmt's text TOLD by the authors' own Lean function (tested against real Go, not proved from fmt's source: count such statements apart). THE CARD IS WHAT COUNTS. Prove the row's statement (the work); the ties are given (YtnbekdcepnfpaaaGreatDoorTie.lean); close each card by the builder's one call (the guide's Derived/Test/ToyasCard.lean, 'card_holds'). Laid BY PROGRAM, IN A SANDBOX (cutbox-door.mjs). By AI agents, Wed Nov 11 2026. No macro, syntax, notation, axiom, sorry.
-/
import Derived.Test.YtnbekdcepnfpaaaGreatDoorRows
import GoSem.ClaimSeven
namespace Go.Proofs.YtnbekdcepnfpaaaGreatDoor
namespace Rows

/-- THE TIED CARD OF 'treadmilllaw28.MachineFresh'. -/
def machineFreshCard : Claim7 := { stood := { row := machineFreshRow, standIns := [], harness := (true, "a92ea1300edcac1fe5a6ab3cfda3c535aec35ae7aa7f61646b37891c2928003c"), looks := true }, kinds := [], alts := [], laidByText := true, laidKinds := [.data], laidTests := true, laidLooks := .later }
def MachineFreshCardSaid : Prop := Claim7.holds Tryz.pinned (.plain (OpenSpec.ofChange machineFreshSpec)) machineFreshCard

/-- THE TIED CARD OF 'treadmilllaw28.MachineLists'. -/
def machineListsCard : Claim7 := { stood := { row := machineListsRow, standIns := [], harness := (true, "a92ea1300edcac1fe5a6ab3cfda3c535aec35ae7aa7f61646b37891c2928003c"), looks := true }, kinds := [], alts := [], laidByText := true, laidKinds := [.data], laidTests := true, laidLooks := .later }
def MachineListsCardSaid : Prop := Claim7.holds Tryz.pinned (.plain (OpenSpec.ofChange machineListsSpec)) machineListsCard

/-- THE TIED CARD OF 'treadmilllaw28.MachineSpawns'. -/
def machineSpawnsCard : Claim7 := { stood := { row := machineSpawnsRow, standIns := [], harness := (true, "a92ea1300edcac1fe5a6ab3cfda3c535aec35ae7aa7f61646b37891c2928003c"), looks := true }, kinds := [], alts := [], laidByText := true, laidKinds := [.data], laidTests := true, laidLooks := .later }
def MachineSpawnsCardSaid : Prop := Claim7.holds Tryz.pinned (.plain (OpenSpec.ofChange machineSpawnsSpec)) machineSpawnsCard

/-- THE TIED CARD OF 'treadmilllaw28.MachineSleeps'. -/
def machineSleepsCard : Claim7 := { stood := { row := machineSleepsRow, standIns := [], harness := (true, "a92ea1300edcac1fe5a6ab3cfda3c535aec35ae7aa7f61646b37891c2928003c"), looks := true }, kinds := [], alts := [], laidByText := true, laidKinds := [.data], laidTests := true, laidLooks := .later }
def MachineSleepsCardSaid : Prop := Claim7.holds Tryz.pinned (.plain (OpenSpec.ofChange machineSleepsSpec)) machineSleepsCard

/-- THE TIED CARD OF 'treadmilltop.TopFloat'. -/
def topFloatCard : Claim7 := { stood := { row := topFloatRow, standIns := [], harness := (true, "a92ea1300edcac1fe5a6ab3cfda3c535aec35ae7aa7f61646b37891c2928003c"), looks := true }, kinds := [], alts := [], laidByText := true, laidKinds := [.data], laidTests := true, laidLooks := .later }
def TopFloatCardSaid : Prop := Claim7.holds Tryz.pinned (.plain (OpenSpec.ofChange topFloatSpec)) topFloatCard

/-- THE TIED CARD OF 'treadmilllaw28.MachineWaits'. -/
def machineWaitsCard : Claim7 := { stood := { row := machineWaitsRow, standIns := [], harness := (true, "a92ea1300edcac1fe5a6ab3cfda3c535aec35ae7aa7f61646b37891c2928003c"), looks := true }, kinds := [], alts := [], laidByText := true, laidKinds := [.data], laidTests := true, laidLooks := .later }
def MachineWaitsCardSaid : Prop := Claim7.holds Tryz.pinned (.plain (OpenSpec.ofChange machineWaitsSpec)) machineWaitsCard

/-- THE TIED CARD OF 'treadmilllaw28.MachineYields'. -/
def machineYieldsCard : Claim7 := { stood := { row := machineYieldsRow, standIns := [], harness := (true, "a92ea1300edcac1fe5a6ab3cfda3c535aec35ae7aa7f61646b37891c2928003c"), looks := true }, kinds := [], alts := [], laidByText := true, laidKinds := [.data], laidTests := true, laidLooks := .later }
def MachineYieldsCardSaid : Prop := Claim7.holds Tryz.pinned (.plain (OpenSpec.ofChange machineYieldsSpec)) machineYieldsCard

/-- THE TIED CARD OF 'treadmilllaw28.MachinePreempts'. -/
def machinePreemptsCard : Claim7 := { stood := { row := machinePreemptsRow, standIns := [], harness := (true, "a92ea1300edcac1fe5a6ab3cfda3c535aec35ae7aa7f61646b37891c2928003c"), looks := true }, kinds := [], alts := [], laidByText := true, laidKinds := [.data], laidTests := true, laidLooks := .later }
def MachinePreemptsCardSaid : Prop := Claim7.holds Tryz.pinned (.plain (OpenSpec.ofChange machinePreemptsSpec)) machinePreemptsCard

/-- THE TIED CARD OF 'treadmilllaw28.MachineGreat'. -/
def machineGreatCard : Claim7 := { stood := { row := machineGreatRow, standIns := [], harness := (true, "a92ea1300edcac1fe5a6ab3cfda3c535aec35ae7aa7f61646b37891c2928003c"), looks := true }, kinds := [], alts := [], laidByText := true, laidKinds := [.data], laidTests := true, laidLooks := .later }
def MachineGreatCardSaid : Prop := Claim7.holds Tryz.pinned (.plain (OpenSpec.ofChange machineGreatSpec)) machineGreatCard

/-- THE TIED CARD OF 'treadmilllaw28.MachineFaults'. -/
def machineFaultsCard : Claim7 := { stood := { row := machineFaultsRow, standIns := [], harness := (true, "a92ea1300edcac1fe5a6ab3cfda3c535aec35ae7aa7f61646b37891c2928003c"), looks := true }, kinds := [], alts := [], laidByText := true, laidKinds := [.data], laidTests := true, laidLooks := .later }
def MachineFaultsCardSaid : Prop := Claim7.holds Tryz.pinned (.plain (OpenSpec.ofChange machineFaultsSpec)) machineFaultsCard

/-- THE TIED CARD OF 'treadmilllaw28.MachineSwaps'. -/
def machineSwapsCard : Claim7 := { stood := { row := machineSwapsRow, standIns := [], harness := (true, "a92ea1300edcac1fe5a6ab3cfda3c535aec35ae7aa7f61646b37891c2928003c"), looks := true }, kinds := [], alts := [], laidByText := true, laidKinds := [.data], laidTests := true, laidLooks := .later }
def MachineSwapsCardSaid : Prop := Claim7.holds Tryz.pinned (.plain (OpenSpec.ofChange machineSwapsSpec)) machineSwapsCard

/-- THE TIED CARD OF 'treadmilllaw28.MachineKeeps'. -/
def machineKeepsCard : Claim7 := { stood := { row := machineKeepsRow, standIns := [], harness := (true, "a92ea1300edcac1fe5a6ab3cfda3c535aec35ae7aa7f61646b37891c2928003c"), looks := true }, kinds := [], alts := [], laidByText := true, laidKinds := [.data], laidTests := true, laidLooks := .later }
def MachineKeepsCardSaid : Prop := Claim7.holds Tryz.pinned (.plain (OpenSpec.ofChange machineKeepsSpec)) machineKeepsCard

/-- THE TIED CARD OF 'treadmilllaw28.MachineWides'. -/
def machineWidesCard : Claim7 := { stood := { row := machineWidesRow, standIns := [], harness := (true, "a92ea1300edcac1fe5a6ab3cfda3c535aec35ae7aa7f61646b37891c2928003c"), looks := true }, kinds := [], alts := [], laidByText := true, laidKinds := [.data], laidTests := true, laidLooks := .later }
def MachineWidesCardSaid : Prop := Claim7.holds Tryz.pinned (.plain (OpenSpec.ofChange machineWidesSpec)) machineWidesCard

/-- THE TIED CARD OF 'treadmilllaw28.MachineDeeps'. -/
def machineDeepsCard : Claim7 := { stood := { row := machineDeepsRow, standIns := [], harness := (true, "a92ea1300edcac1fe5a6ab3cfda3c535aec35ae7aa7f61646b37891c2928003c"), looks := true }, kinds := [], alts := [], laidByText := true, laidKinds := [.data], laidTests := true, laidLooks := .later }
def MachineDeepsCardSaid : Prop := Claim7.holds Tryz.pinned (.plain (OpenSpec.ofChange machineDeepsSpec)) machineDeepsCard

/-- THE TIED CARD OF 'treadmilllaw28.MachineRings'. -/
def machineRingsCard : Claim7 := { stood := { row := machineRingsRow, standIns := [], harness := (true, "a92ea1300edcac1fe5a6ab3cfda3c535aec35ae7aa7f61646b37891c2928003c"), looks := true }, kinds := [], alts := [], laidByText := true, laidKinds := [.data], laidTests := true, laidLooks := .later }
def MachineRingsCardSaid : Prop := Claim7.holds Tryz.pinned (.plain (OpenSpec.ofChange machineRingsSpec)) machineRingsCard

/-- THE TIED CARD OF 'treadmilllaw28.MachineOffs'. -/
def machineOffsCard : Claim7 := { stood := { row := machineOffsRow, standIns := [], harness := (true, "a92ea1300edcac1fe5a6ab3cfda3c535aec35ae7aa7f61646b37891c2928003c"), looks := true }, kinds := [], alts := [], laidByText := true, laidKinds := [.data], laidTests := true, laidLooks := .later }
def MachineOffsCardSaid : Prop := Claim7.holds Tryz.pinned (.plain (OpenSpec.ofChange machineOffsSpec)) machineOffsCard

/-- THE SECOND FORM's CARD OF 'treadmilllaw28.MachineFresh'. -/
def machineFreshUptoCard : Claim7 := { stood := { row := machineFreshUptoRow, standIns := [], harness := (true, "a92ea1300edcac1fe5a6ab3cfda3c535aec35ae7aa7f61646b37891c2928003c"), looks := true }, kinds := [], alts := [], laidByText := true, laidKinds := [.data], laidTests := true, laidLooks := .later }
def MachineFreshUptoCardSaid : Prop := Claim7.holds Tryz.pinned (.plain (OpenSpec.upto machineFreshSpec)) machineFreshUptoCard

/-- THE SECOND FORM's CARD OF 'treadmilllaw28.MachineLists'. -/
def machineListsUptoCard : Claim7 := { stood := { row := machineListsUptoRow, standIns := [], harness := (true, "a92ea1300edcac1fe5a6ab3cfda3c535aec35ae7aa7f61646b37891c2928003c"), looks := true }, kinds := [], alts := [], laidByText := true, laidKinds := [.data], laidTests := true, laidLooks := .later }
def MachineListsUptoCardSaid : Prop := Claim7.holds Tryz.pinned (.plain (OpenSpec.upto machineListsSpec)) machineListsUptoCard

/-- THE SECOND FORM's CARD OF 'treadmilllaw28.MachineSpawns'. -/
def machineSpawnsUptoCard : Claim7 := { stood := { row := machineSpawnsUptoRow, standIns := [], harness := (true, "a92ea1300edcac1fe5a6ab3cfda3c535aec35ae7aa7f61646b37891c2928003c"), looks := true }, kinds := [], alts := [], laidByText := true, laidKinds := [.data], laidTests := true, laidLooks := .later }
def MachineSpawnsUptoCardSaid : Prop := Claim7.holds Tryz.pinned (.plain (OpenSpec.upto machineSpawnsSpec)) machineSpawnsUptoCard

/-- THE SECOND FORM's CARD OF 'treadmilllaw28.MachineSleeps'. -/
def machineSleepsUptoCard : Claim7 := { stood := { row := machineSleepsUptoRow, standIns := [], harness := (true, "a92ea1300edcac1fe5a6ab3cfda3c535aec35ae7aa7f61646b37891c2928003c"), looks := true }, kinds := [], alts := [], laidByText := true, laidKinds := [.data], laidTests := true, laidLooks := .later }
def MachineSleepsUptoCardSaid : Prop := Claim7.holds Tryz.pinned (.plain (OpenSpec.upto machineSleepsSpec)) machineSleepsUptoCard

/-- THE SECOND FORM's CARD OF 'treadmilltop.TopFloat'. -/
def topFloatUptoCard : Claim7 := { stood := { row := topFloatUptoRow, standIns := [], harness := (true, "a92ea1300edcac1fe5a6ab3cfda3c535aec35ae7aa7f61646b37891c2928003c"), looks := true }, kinds := [], alts := [], laidByText := true, laidKinds := [.data], laidTests := true, laidLooks := .later }
def TopFloatUptoCardSaid : Prop := Claim7.holds Tryz.pinned (.plain (OpenSpec.upto topFloatSpec)) topFloatUptoCard

/-- THE SECOND FORM's CARD OF 'treadmilllaw28.MachineWaits'. -/
def machineWaitsUptoCard : Claim7 := { stood := { row := machineWaitsUptoRow, standIns := [], harness := (true, "a92ea1300edcac1fe5a6ab3cfda3c535aec35ae7aa7f61646b37891c2928003c"), looks := true }, kinds := [], alts := [], laidByText := true, laidKinds := [.data], laidTests := true, laidLooks := .later }
def MachineWaitsUptoCardSaid : Prop := Claim7.holds Tryz.pinned (.plain (OpenSpec.upto machineWaitsSpec)) machineWaitsUptoCard

/-- THE SECOND FORM's CARD OF 'treadmilllaw28.MachineYields'. -/
def machineYieldsUptoCard : Claim7 := { stood := { row := machineYieldsUptoRow, standIns := [], harness := (true, "a92ea1300edcac1fe5a6ab3cfda3c535aec35ae7aa7f61646b37891c2928003c"), looks := true }, kinds := [], alts := [], laidByText := true, laidKinds := [.data], laidTests := true, laidLooks := .later }
def MachineYieldsUptoCardSaid : Prop := Claim7.holds Tryz.pinned (.plain (OpenSpec.upto machineYieldsSpec)) machineYieldsUptoCard

/-- THE SECOND FORM's CARD OF 'treadmilllaw28.MachinePreempts'. -/
def machinePreemptsUptoCard : Claim7 := { stood := { row := machinePreemptsUptoRow, standIns := [], harness := (true, "a92ea1300edcac1fe5a6ab3cfda3c535aec35ae7aa7f61646b37891c2928003c"), looks := true }, kinds := [], alts := [], laidByText := true, laidKinds := [.data], laidTests := true, laidLooks := .later }
def MachinePreemptsUptoCardSaid : Prop := Claim7.holds Tryz.pinned (.plain (OpenSpec.upto machinePreemptsSpec)) machinePreemptsUptoCard

/-- THE SECOND FORM's CARD OF 'treadmilllaw28.MachineGreat'. -/
def machineGreatUptoCard : Claim7 := { stood := { row := machineGreatUptoRow, standIns := [], harness := (true, "a92ea1300edcac1fe5a6ab3cfda3c535aec35ae7aa7f61646b37891c2928003c"), looks := true }, kinds := [], alts := [], laidByText := true, laidKinds := [.data], laidTests := true, laidLooks := .later }
def MachineGreatUptoCardSaid : Prop := Claim7.holds Tryz.pinned (.plain (OpenSpec.upto machineGreatSpec)) machineGreatUptoCard

/-- THE SECOND FORM's CARD OF 'treadmilllaw28.MachineFaults'. -/
def machineFaultsUptoCard : Claim7 := { stood := { row := machineFaultsUptoRow, standIns := [], harness := (true, "a92ea1300edcac1fe5a6ab3cfda3c535aec35ae7aa7f61646b37891c2928003c"), looks := true }, kinds := [], alts := [], laidByText := true, laidKinds := [.data], laidTests := true, laidLooks := .later }
def MachineFaultsUptoCardSaid : Prop := Claim7.holds Tryz.pinned (.plain (OpenSpec.upto machineFaultsSpec)) machineFaultsUptoCard

/-- THE SECOND FORM's CARD OF 'treadmilllaw28.MachineSwaps'. -/
def machineSwapsUptoCard : Claim7 := { stood := { row := machineSwapsUptoRow, standIns := [], harness := (true, "a92ea1300edcac1fe5a6ab3cfda3c535aec35ae7aa7f61646b37891c2928003c"), looks := true }, kinds := [], alts := [], laidByText := true, laidKinds := [.data], laidTests := true, laidLooks := .later }
def MachineSwapsUptoCardSaid : Prop := Claim7.holds Tryz.pinned (.plain (OpenSpec.upto machineSwapsSpec)) machineSwapsUptoCard

/-- THE SECOND FORM's CARD OF 'treadmilllaw28.MachineKeeps'. -/
def machineKeepsUptoCard : Claim7 := { stood := { row := machineKeepsUptoRow, standIns := [], harness := (true, "a92ea1300edcac1fe5a6ab3cfda3c535aec35ae7aa7f61646b37891c2928003c"), looks := true }, kinds := [], alts := [], laidByText := true, laidKinds := [.data], laidTests := true, laidLooks := .later }
def MachineKeepsUptoCardSaid : Prop := Claim7.holds Tryz.pinned (.plain (OpenSpec.upto machineKeepsSpec)) machineKeepsUptoCard

/-- THE SECOND FORM's CARD OF 'treadmilllaw28.MachineWides'. -/
def machineWidesUptoCard : Claim7 := { stood := { row := machineWidesUptoRow, standIns := [], harness := (true, "a92ea1300edcac1fe5a6ab3cfda3c535aec35ae7aa7f61646b37891c2928003c"), looks := true }, kinds := [], alts := [], laidByText := true, laidKinds := [.data], laidTests := true, laidLooks := .later }
def MachineWidesUptoCardSaid : Prop := Claim7.holds Tryz.pinned (.plain (OpenSpec.upto machineWidesSpec)) machineWidesUptoCard

/-- THE SECOND FORM's CARD OF 'treadmilllaw28.MachineDeeps'. -/
def machineDeepsUptoCard : Claim7 := { stood := { row := machineDeepsUptoRow, standIns := [], harness := (true, "a92ea1300edcac1fe5a6ab3cfda3c535aec35ae7aa7f61646b37891c2928003c"), looks := true }, kinds := [], alts := [], laidByText := true, laidKinds := [.data], laidTests := true, laidLooks := .later }
def MachineDeepsUptoCardSaid : Prop := Claim7.holds Tryz.pinned (.plain (OpenSpec.upto machineDeepsSpec)) machineDeepsUptoCard

/-- THE SECOND FORM's CARD OF 'treadmilllaw28.MachineRings'. -/
def machineRingsUptoCard : Claim7 := { stood := { row := machineRingsUptoRow, standIns := [], harness := (true, "a92ea1300edcac1fe5a6ab3cfda3c535aec35ae7aa7f61646b37891c2928003c"), looks := true }, kinds := [], alts := [], laidByText := true, laidKinds := [.data], laidTests := true, laidLooks := .later }
def MachineRingsUptoCardSaid : Prop := Claim7.holds Tryz.pinned (.plain (OpenSpec.upto machineRingsSpec)) machineRingsUptoCard

/-- THE SECOND FORM's CARD OF 'treadmilllaw28.MachineOffs'. -/
def machineOffsUptoCard : Claim7 := { stood := { row := machineOffsUptoRow, standIns := [], harness := (true, "a92ea1300edcac1fe5a6ab3cfda3c535aec35ae7aa7f61646b37891c2928003c"), looks := true }, kinds := [], alts := [], laidByText := true, laidKinds := [.data], laidTests := true, laidLooks := .later }
def MachineOffsUptoCardSaid : Prop := Claim7.holds Tryz.pinned (.plain (OpenSpec.upto machineOffsSpec)) machineOffsUptoCard
end Rows
end Go.Proofs.YtnbekdcepnfpaaaGreatDoor
