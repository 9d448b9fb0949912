/- MachineWaits: two that wake one another run as the law says, at every configuration and every number: the law returns true. -/
import Derived.Test.YtnbekdcepnfpaaaGreatDoorRB1
import Derived.Test.YtnbekdcepnfpaaaGreatDoorRB2
import Derived.Test.YtnbekdcepnfpaaaGreatDoorRB3
import Derived.Test.YtnbekdcepnfpaaaGreatDoorG39
set_option linter.unusedVariables false
set_option linter.unusedSimpArgs false
set_option maxRecDepth 100000
noncomputable section
namespace Go.E
open Go Go.Proofs Go.ChangeShapes Go.WideShapes Go.RowKit
theorem machineWaits_clos : ((YtnbekdcepnfpaaaGreatDoor.Rows.machineWaitsRow.inPlace == Tryz.prog.inPlace 8) && (YtnbekdcepnfpaaaGreatDoor.Rows.machineWaitsRow.unfollowed == Tryz.prog.unfollowed 8) && (YtnbekdcepnfpaaaGreatDoor.Rows.machineWaitsRow.recurses == Tryz.prog.recurses 8) && (YtnbekdcepnfpaaaGreatDoor.Rows.machineWaitsRow.named == Tryz.prog.varsNamed 8)) = true := by kernel_rfl
theorem machineWaits_small : (YtnbekdcepnfpaaaGreatDoor.Rows.machineWaitsRow.wf (OpenSpec.ofChange YtnbekdcepnfpaaaGreatDoor.Rows.machineWaitsSpec) && Tryz.f8.params.all (Tryz.prog.readableRec ·) && namedTie Tryz.prog YtnbekdcepnfpaaaGreatDoor.Rows.machineWaitsRow.named YtnbekdcepnfpaaaGreatDoor.Rows.machineWaitsSpec.vars && (YtnbekdcepnfpaaaGreatDoor.Rows.machineWaitsRow.stops == []) && (YtnbekdcepnfpaaaGreatDoor.Rows.machineWaitsRow.knobs == []) &&
  (YtnbekdcepnfpaaaGreatDoor.Rows.machineWaitsRow.maps == (Tryz.f8.params.toList ++ YtnbekdcepnfpaaaGreatDoor.Rows.machineWaitsSpec.plain.varTypes Tryz.prog).any (Tryz.prog.mapsRec ·)) && (YtnbekdcepnfpaaaGreatDoor.Rows.machineWaitsRow.ifaces == (Tryz.f8.params.toList ++ YtnbekdcepnfpaaaGreatDoor.Rows.machineWaitsSpec.plain.varTypes Tryz.prog).any (Tryz.prog.ifacesRec ·)) && (YtnbekdcepnfpaaaGreatDoor.Rows.machineWaitsRow.mapsOut == Tryz.prog.mapsAmong Tryz.f8.resultTypes.toList) &&
  (YtnbekdcepnfpaaaGreatDoor.Rows.machineWaitsRow.loops == (Tryz.f8.params.toList ++ YtnbekdcepnfpaaaGreatDoor.Rows.machineWaitsSpec.plain.varTypes Tryz.prog).any (Tryz.prog.loopsFrom ·)) && (YtnbekdcepnfpaaaGreatDoor.Rows.machineWaitsRow.wideKeys == (Tryz.f8.params.toList ++ YtnbekdcepnfpaaaGreatDoor.Rows.machineWaitsSpec.plain.varTypes Tryz.prog ++ Tryz.f8.resultTypes.toList).any (Tryz.prog.wideKeysFrom ·)) &&
  YtnbekdcepnfpaaaGreatDoor.Rows.machineWaitsSpec.vars.all (Tryz.prog.varReadable ·) && Tryz.f8.resultTypes.all (fun t => Tryz.prog.readableRec t && decide (t < Tryz.prog.types.size)) && (YtnbekdcepnfpaaaGreatDoor.Rows.machineWaitsRow.ifacesOut == Tryz.f8.resultTypes.toList.any (Tryz.prog.ifacesRec ·)) && (YtnbekdcepnfpaaaGreatDoor.Rows.machineWaitsRow.loopsOut == Tryz.f8.resultTypes.toList.any (Tryz.prog.loopsFrom ·)) &&
  YtnbekdcepnfpaaaGreatDoor.Rows.machineWaitsRow.shortTexts.isNone && (YtnbekdcepnfpaaaGreatDoor.Rows.machineWaitsRow.kinds == (if YtnbekdcepnfpaaaGreatDoor.Rows.machineWaitsRow.domain.isEmpty then [] else Tryz.f8.params.toList.map fun t => match Tryz.prog.underlying t with | some (.int k) => some k | _ => none)) && (YtnbekdcepnfpaaaGreatDoor.Rows.machineWaitsRow.pinned == YtnbekdcepnfpaaaGreatDoor.Rows.machineWaitsRow.pinnedBy) &&
  (YtnbekdcepnfpaaaGreatDoor.Rows.machineWaitsRow.veiled == (Tryz.f8.params.toList ++ YtnbekdcepnfpaaaGreatDoor.Rows.machineWaitsSpec.plain.varTypes Tryz.prog ++ Tryz.f8.resultTypes.toList).any (Tryz.prog.veiledRec ·)) && YtnbekdcepnfpaaaGreatDoor.Rows.machineWaitsRow.veiledFits Tryz.prog Tryz.f8.params.toList (Tryz.f8.params.toList ++ YtnbekdcepnfpaaaGreatDoor.Rows.machineWaitsSpec.plain.varTypes Tryz.prog ++ Tryz.f8.resultTypes.toList)) = true := by kernel_rfl
theorem machineWaits_joined : joinedFacts Tryz.prog 8 Tryz.f8 YtnbekdcepnfpaaaGreatDoor.Rows.machineWaitsSpec YtnbekdcepnfpaaaGreatDoor.Rows.machineWaitsRow = true := by
  have h1 := machineWaits_clos
  have h2 := machineWaits_small
  simp only [Bool.and_eq_true] at h1 h2
  obtain ⟨⟨⟨a9, a10⟩, a11⟩, a12⟩ := h1
  obtain ⟨⟨⟨⟨⟨⟨⟨⟨⟨⟨⟨⟨⟨⟨⟨⟨⟨⟨b0, b3⟩, b4⟩, b5⟩, b7⟩, b13⟩, b14⟩, b15⟩, b16⟩, b17⟩, b18⟩, b19⟩, b20⟩, b21⟩, b23⟩, b28⟩, b29⟩, b30⟩, b31⟩ := h2
  have c6 : (Tryz.prog.stops == []) = true := by rw [pk6]; rfl
  have c8 : (Tryz.prog.stopKnobs == []) = true := by rw [pk8]; rfl
  have c22 : (YtnbekdcepnfpaaaGreatDoor.Rows.machineWaitsRow.plainKeys == Tryz.prog.plainKeys) = true := by rw [pk22]; rfl
  have c26 : (YtnbekdcepnfpaaaGreatDoor.Rows.machineWaitsRow.lifted == Tryz.prog.liftsFinal) = true := by rw [pk26]; rfl
  have c27 : (Tryz.prog.make == some YtnbekdcepnfpaaaGreatDoor.Rows.machineWaitsRow.make) = true := by rw [pk27]; rfl
  unfold joinedFacts
  simp only [Bool.and_eq_true]
  exact ⟨⟨⟨⟨⟨⟨⟨⟨⟨⟨⟨⟨⟨⟨⟨⟨⟨⟨⟨⟨⟨⟨⟨⟨⟨⟨⟨⟨⟨⟨⟨b0, pk1⟩, pk2⟩, b3⟩, b4⟩, b5⟩, c6⟩, b7⟩, c8⟩, a9⟩, a10⟩, a11⟩, a12⟩, b13⟩, b14⟩, b15⟩, b16⟩, b17⟩, b18⟩, b19⟩, b20⟩, b21⟩, c22⟩, b23⟩, pk24⟩, pk25⟩, c26⟩, c27⟩, b28⟩, b29⟩, b30⟩, b31⟩
theorem machineWaits_named : Tryz.prog.funcNamed YtnbekdcepnfpaaaGreatDoor.Rows.machineWaitsRow.func = some 8 := by kernel_rfl
theorem machineWaits_lifted (os : Os) (started : os.Started) (H : Type) (enc : TypeId × Value → H) :
    ReturnsInHanded {} Tryz.checked os 8 .any (fun w args => (YtnbekdcepnfpaaaGreatDoor.Rows.machineWaitsSpec.pre enc Tryz.prog Tryz.f8 [] false w args ∧ laidMetH Tryz.prog laidL w) ∧ sizedMet enc Tryz.prog Tryz.f8 (OpenSpec.ofChange YtnbekdcepnfpaaaGreatDoor.Rows.machineWaitsSpec) false w args)
      (YtnbekdcepnfpaaaGreatDoor.Rows.machineWaitsSpec.post enc Tryz.prog Tryz.f8 false true false false) := by
  refine returnsInHanded_of_change_and (C := Tryz.checked) (X := fun w _ => laidMetH Tryz.prog laidL w) (fun _ _ _ hh h => h.of_heap hh) own started (by kernel_rfl) Tryz.func8
    (ChangeSpec.witness_shaped (enc := enc) (C := Tryz.checked) (os := os) (X := fun w _ => laidMetH Tryz.prog laidL w) false (World.doorLaid Tryz.prog 14 os) #[.agg #[.int .i64 0, .int .i64 0, .float .f64 0, .float .f64 0], .int .i64 0] 8 rfl (World.shaped_of_RefB (by kernel_rfl) (by kernel_rfl)) (by kernel_rfl) (by kernel_rfl) (by kernel_rfl) (door_met os _)) ?_
  intro W base args ds gs before hval hW _ _ _ _
  exact post2 (nm := "machineWaits") (fun a b p q n w => waits_law w) (by kernel_rfl) (by kernel_rfl) hval hW
end Go.E
namespace Go.Proofs.YtnbekdcepnfpaaaGreatDoor
open Go Go.E
theorem machineWaits_row : Rows.MachineWaitsSaid :=
  OpenClaim.holds_of_wide 8 Tryz.f8 rfl rfl rfl rfl rfl rfl rfl ⟨rfl, rfl, rfl, rfl, rfl⟩ rfl rfl rfl rfl rfl machineWaits_named Tryz.func8 machineWaits_joined
    (of_decide_eq_true (by kernel_rfl)) (by unfold Func.isWrapper; first | (rw [if_pos (by decide +kernel)]; kernel_rfl) | (rw [if_neg (by decide +kernel)]; exact ⟨rfl, rfl⟩))
    (fun os started H enc _ => machineWaits_lifted os started H enc)
/-- MachineWaits: two that wake one another run as the law says, at every configuration and every number: the law returns true. -/
theorem machineWaits_holds : Rows.MachineWaitsCardSaid :=
  Claim7.holds_tied_plain_at .later [] [.data] true (true, "a92ea1300edcac1fe5a6ab3cfda3c535aec35ae7aa7f61646b37891c2928003c") true
    machineWaits_row (fun _ h => by cases h) (by kernel_rfl) (fun _ h => by cases h) machineWaits_row_tie rfl ⟨rfl, rfl⟩ pkM rfl
    (fun f fn hf hfn => by
      obtain rfl : f = 8 := Option.some.inj (machineWaits_named.symm.trans hf) |>.symm
      obtain rfl : fn = Tryz.f8 := (Option.some.inj (Tryz.func8.symm.trans hfn)).symm
      exact ⟨pkL.symm, fun j t ht => by
        rw [show Tryz.f8.params = #[24, 3] by kernel_rfl] at ht
        have h3 : t = 24 ∨ t = 3 := by
          rcases j with _ | _ | j
          · exact .inl (by simpa using ht.symm)
          · exact .inr (by simpa using ht.symm)
          · simp at ht
        rcases h3 with rfl | rfl
        · exact pkW24
        · exact pkW3⟩)
    (by kernel_rfl)
end Go.Proofs.YtnbekdcepnfpaaaGreatDoor
end
