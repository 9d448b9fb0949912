/- MachineYields: those that yield run as the law says, at every configuration and numbers: the law returns true. -/
import Derived.Test.YtnbekdcepnfpaaaGreatDoorRB1
import Derived.Test.YtnbekdcepnfpaaaGreatDoorRB2
import Derived.Test.YtnbekdcepnfpaaaGreatDoorRB3
import Derived.Test.YtnbekdcepnfpaaaGreatDoorG40
set_option linter.unusedVariables false
set_option linter.unusedSimpArgs false
set_option maxRecDepth 100000
noncomputable section
namespace Go.E
open Go Go.Proofs Go.ChangeShapes Go.WideShapes Go.RowKit
theorem machineYields_clos : ((YtnbekdcepnfpaaaGreatDoor.Rows.machineYieldsRow.inPlace == Tryz.prog.inPlace 9) && (YtnbekdcepnfpaaaGreatDoor.Rows.machineYieldsRow.unfollowed == Tryz.prog.unfollowed 9) && (YtnbekdcepnfpaaaGreatDoor.Rows.machineYieldsRow.recurses == Tryz.prog.recurses 9) && (YtnbekdcepnfpaaaGreatDoor.Rows.machineYieldsRow.named == Tryz.prog.varsNamed 9)) = true := by kernel_rfl
theorem machineYields_small : (YtnbekdcepnfpaaaGreatDoor.Rows.machineYieldsRow.wf (OpenSpec.ofChange YtnbekdcepnfpaaaGreatDoor.Rows.machineYieldsSpec) && Tryz.f9.params.all (Tryz.prog.readableRec ·) && namedTie Tryz.prog YtnbekdcepnfpaaaGreatDoor.Rows.machineYieldsRow.named YtnbekdcepnfpaaaGreatDoor.Rows.machineYieldsSpec.vars && (YtnbekdcepnfpaaaGreatDoor.Rows.machineYieldsRow.stops == []) && (YtnbekdcepnfpaaaGreatDoor.Rows.machineYieldsRow.knobs == []) &&
  (YtnbekdcepnfpaaaGreatDoor.Rows.machineYieldsRow.maps == (Tryz.f9.params.toList ++ YtnbekdcepnfpaaaGreatDoor.Rows.machineYieldsSpec.plain.varTypes Tryz.prog).any (Tryz.prog.mapsRec ·)) && (YtnbekdcepnfpaaaGreatDoor.Rows.machineYieldsRow.ifaces == (Tryz.f9.params.toList ++ YtnbekdcepnfpaaaGreatDoor.Rows.machineYieldsSpec.plain.varTypes Tryz.prog).any (Tryz.prog.ifacesRec ·)) && (YtnbekdcepnfpaaaGreatDoor.Rows.machineYieldsRow.mapsOut == Tryz.prog.mapsAmong Tryz.f9.resultTypes.toList) &&
  (YtnbekdcepnfpaaaGreatDoor.Rows.machineYieldsRow.loops == (Tryz.f9.params.toList ++ YtnbekdcepnfpaaaGreatDoor.Rows.machineYieldsSpec.plain.varTypes Tryz.prog).any (Tryz.prog.loopsFrom ·)) && (YtnbekdcepnfpaaaGreatDoor.Rows.machineYieldsRow.wideKeys == (Tryz.f9.params.toList ++ YtnbekdcepnfpaaaGreatDoor.Rows.machineYieldsSpec.plain.varTypes Tryz.prog ++ Tryz.f9.resultTypes.toList).any (Tryz.prog.wideKeysFrom ·)) &&
  YtnbekdcepnfpaaaGreatDoor.Rows.machineYieldsSpec.vars.all (Tryz.prog.varReadable ·) && Tryz.f9.resultTypes.all (fun t => Tryz.prog.readableRec t && decide (t < Tryz.prog.types.size)) && (YtnbekdcepnfpaaaGreatDoor.Rows.machineYieldsRow.ifacesOut == Tryz.f9.resultTypes.toList.any (Tryz.prog.ifacesRec ·)) && (YtnbekdcepnfpaaaGreatDoor.Rows.machineYieldsRow.loopsOut == Tryz.f9.resultTypes.toList.any (Tryz.prog.loopsFrom ·)) &&
  YtnbekdcepnfpaaaGreatDoor.Rows.machineYieldsRow.shortTexts.isNone && (YtnbekdcepnfpaaaGreatDoor.Rows.machineYieldsRow.kinds == (if YtnbekdcepnfpaaaGreatDoor.Rows.machineYieldsRow.domain.isEmpty then [] else Tryz.f9.params.toList.map fun t => match Tryz.prog.underlying t with | some (.int k) => some k | _ => none)) && (YtnbekdcepnfpaaaGreatDoor.Rows.machineYieldsRow.pinned == YtnbekdcepnfpaaaGreatDoor.Rows.machineYieldsRow.pinnedBy) &&
  (YtnbekdcepnfpaaaGreatDoor.Rows.machineYieldsRow.veiled == (Tryz.f9.params.toList ++ YtnbekdcepnfpaaaGreatDoor.Rows.machineYieldsSpec.plain.varTypes Tryz.prog ++ Tryz.f9.resultTypes.toList).any (Tryz.prog.veiledRec ·)) && YtnbekdcepnfpaaaGreatDoor.Rows.machineYieldsRow.veiledFits Tryz.prog Tryz.f9.params.toList (Tryz.f9.params.toList ++ YtnbekdcepnfpaaaGreatDoor.Rows.machineYieldsSpec.plain.varTypes Tryz.prog ++ Tryz.f9.resultTypes.toList)) = true := by kernel_rfl
theorem machineYields_joined : joinedFacts Tryz.prog 9 Tryz.f9 YtnbekdcepnfpaaaGreatDoor.Rows.machineYieldsSpec YtnbekdcepnfpaaaGreatDoor.Rows.machineYieldsRow = true := by
  have h1 := machineYields_clos
  have h2 := machineYields_small
  simp only [Bool.and_eq_true] at h1 h2
  obtain ⟨⟨⟨a9, a10⟩, a11⟩, a12⟩ := h1
  obtain ⟨⟨⟨⟨⟨⟨⟨⟨⟨⟨⟨⟨⟨⟨⟨⟨⟨⟨b0, b3⟩, b4⟩, b5⟩, b7⟩, b13⟩, b14⟩, b15⟩, b16⟩, b17⟩, b18⟩, b19⟩, b20⟩, b21⟩, b23⟩, b28⟩, b29⟩, b30⟩, b31⟩ := h2
  have c6 : (Tryz.prog.stops == []) = true := by rw [pk6]; rfl
  have c8 : (Tryz.prog.stopKnobs == []) = true := by rw [pk8]; rfl
  have c22 : (YtnbekdcepnfpaaaGreatDoor.Rows.machineYieldsRow.plainKeys == Tryz.prog.plainKeys) = true := by rw [pk22]; rfl
  have c26 : (YtnbekdcepnfpaaaGreatDoor.Rows.machineYieldsRow.lifted == Tryz.prog.liftsFinal) = true := by rw [pk26]; rfl
  have c27 : (Tryz.prog.make == some YtnbekdcepnfpaaaGreatDoor.Rows.machineYieldsRow.make) = true := by rw [pk27]; rfl
  unfold joinedFacts
  simp only [Bool.and_eq_true]
  exact ⟨⟨⟨⟨⟨⟨⟨⟨⟨⟨⟨⟨⟨⟨⟨⟨⟨⟨⟨⟨⟨⟨⟨⟨⟨⟨⟨⟨⟨⟨⟨b0, pk1⟩, pk2⟩, b3⟩, b4⟩, b5⟩, c6⟩, b7⟩, c8⟩, a9⟩, a10⟩, a11⟩, a12⟩, b13⟩, b14⟩, b15⟩, b16⟩, b17⟩, b18⟩, b19⟩, b20⟩, b21⟩, c22⟩, b23⟩, pk24⟩, pk25⟩, c26⟩, c27⟩, b28⟩, b29⟩, b30⟩, b31⟩
theorem machineYields_named : Tryz.prog.funcNamed YtnbekdcepnfpaaaGreatDoor.Rows.machineYieldsRow.func = some 9 := by kernel_rfl
theorem machineYields_lifted (os : Os) (started : os.Started) (H : Type) (enc : TypeId × Value → H) :
    ReturnsInHanded {} Tryz.checked os 9 .any (fun w args => (YtnbekdcepnfpaaaGreatDoor.Rows.machineYieldsSpec.pre enc Tryz.prog Tryz.f9 [] false w args ∧ laidMetH Tryz.prog laidL w) ∧ sizedMet enc Tryz.prog Tryz.f9 (OpenSpec.ofChange YtnbekdcepnfpaaaGreatDoor.Rows.machineYieldsSpec) false w args)
      (YtnbekdcepnfpaaaGreatDoor.Rows.machineYieldsSpec.post enc Tryz.prog Tryz.f9 false true false false) := by
  refine returnsInHanded_of_change_and (C := Tryz.checked) (X := fun w _ => laidMetH Tryz.prog laidL w) (fun _ _ _ hh h => h.of_heap hh) own started (by kernel_rfl) Tryz.func9
    (ChangeSpec.witness_shaped (enc := enc) (C := Tryz.checked) (os := os) (X := fun w _ => laidMetH Tryz.prog laidL w) false (World.doorLaid Tryz.prog 14 os) #[.agg #[.int .i64 0, .int .i64 0, .float .f64 0, .float .f64 0], .int .i64 0, .int .i64 0] 8 rfl (World.shaped_of_RefB (by kernel_rfl) (by kernel_rfl)) (by kernel_rfl) (by kernel_rfl) (by kernel_rfl) (door_met os _)) ?_
  intro W base args ds gs before hval hW _ _ _ _
  exact post3 (nm := "machineYields") (fun a b p q n m w => yields_law w) (by kernel_rfl) (by kernel_rfl) hval hW
end Go.E
namespace Go.Proofs.YtnbekdcepnfpaaaGreatDoor
open Go Go.E
theorem machineYields_row : Rows.MachineYieldsSaid :=
  OpenClaim.holds_of_wide 9 Tryz.f9 rfl rfl rfl rfl rfl rfl rfl ⟨rfl, rfl, rfl, rfl, rfl⟩ rfl rfl rfl rfl rfl machineYields_named Tryz.func9 machineYields_joined
    (of_decide_eq_true (by kernel_rfl)) (by unfold Func.isWrapper; first | (rw [if_pos (by decide +kernel)]; kernel_rfl) | (rw [if_neg (by decide +kernel)]; exact ⟨rfl, rfl⟩))
    (fun os started H enc _ => machineYields_lifted os started H enc)
/-- MachineYields: those that yield run as the law says, at every configuration and numbers: the law returns true. -/
theorem machineYields_holds : Rows.MachineYieldsCardSaid :=
  Claim7.holds_tied_plain_at .later [] [.data] true (true, "a92ea1300edcac1fe5a6ab3cfda3c535aec35ae7aa7f61646b37891c2928003c") true
    machineYields_row (fun _ h => by cases h) (by kernel_rfl) (fun _ h => by cases h) machineYields_row_tie rfl ⟨rfl, rfl⟩ pkM rfl
    (fun f fn hf hfn => by
      obtain rfl : f = 9 := Option.some.inj (machineYields_named.symm.trans hf) |>.symm
      obtain rfl : fn = Tryz.f9 := (Option.some.inj (Tryz.func9.symm.trans hfn)).symm
      exact ⟨pkL.symm, fun j t ht => by
        rw [show Tryz.f9.params = #[24, 3, 3] by kernel_rfl] at ht
        have h3 : t = 24 ∨ t = 3 := by
          rcases j with _ | _ | _ | j
          · exact .inl (by simpa using ht.symm)
          · exact .inr (by simpa using ht.symm)
          · exact .inr (by simpa using ht.symm)
          · simp at ht
        rcases h3 with rfl | rfl
        · exact pkW24
        · exact pkW3⟩)
    (by kernel_rfl)
end Go.Proofs.YtnbekdcepnfpaaaGreatDoor
end
