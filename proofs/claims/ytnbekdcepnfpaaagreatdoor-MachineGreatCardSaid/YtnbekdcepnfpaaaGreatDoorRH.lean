/- MachineGreat: where one begins more than there is room for, it runs as the law says: the law returns true. -/
import Derived.Test.YtnbekdcepnfpaaaGreatDoorRB1
import Derived.Test.YtnbekdcepnfpaaaGreatDoorRB2
import Derived.Test.YtnbekdcepnfpaaaGreatDoorRB3
import Derived.Test.YtnbekdcepnfpaaaGreatDoorG41
set_option linter.unusedVariables false
set_option linter.unusedSimpArgs false
set_option maxRecDepth 100000
noncomputable section
namespace Go.E
open Go Go.Proofs Go.ChangeShapes Go.WideShapes Go.RowKit
theorem machineGreat_clos : ((YtnbekdcepnfpaaaGreatDoor.Rows.machineGreatRow.inPlace == Tryz.prog.inPlace 11) && (YtnbekdcepnfpaaaGreatDoor.Rows.machineGreatRow.unfollowed == Tryz.prog.unfollowed 11) && (YtnbekdcepnfpaaaGreatDoor.Rows.machineGreatRow.recurses == Tryz.prog.recurses 11) && (YtnbekdcepnfpaaaGreatDoor.Rows.machineGreatRow.named == Tryz.prog.varsNamed 11)) = true := by kernel_rfl
theorem machineGreat_small : (YtnbekdcepnfpaaaGreatDoor.Rows.machineGreatRow.wf (OpenSpec.ofChange YtnbekdcepnfpaaaGreatDoor.Rows.machineGreatSpec) && Tryz.f11.params.all (Tryz.prog.readableRec ·) && namedTie Tryz.prog YtnbekdcepnfpaaaGreatDoor.Rows.machineGreatRow.named YtnbekdcepnfpaaaGreatDoor.Rows.machineGreatSpec.vars && (YtnbekdcepnfpaaaGreatDoor.Rows.machineGreatRow.stops == []) && (YtnbekdcepnfpaaaGreatDoor.Rows.machineGreatRow.knobs == []) &&
  (YtnbekdcepnfpaaaGreatDoor.Rows.machineGreatRow.maps == (Tryz.f11.params.toList ++ YtnbekdcepnfpaaaGreatDoor.Rows.machineGreatSpec.plain.varTypes Tryz.prog).any (Tryz.prog.mapsRec ·)) && (YtnbekdcepnfpaaaGreatDoor.Rows.machineGreatRow.ifaces == (Tryz.f11.params.toList ++ YtnbekdcepnfpaaaGreatDoor.Rows.machineGreatSpec.plain.varTypes Tryz.prog).any (Tryz.prog.ifacesRec ·)) && (YtnbekdcepnfpaaaGreatDoor.Rows.machineGreatRow.mapsOut == Tryz.prog.mapsAmong Tryz.f11.resultTypes.toList) &&
  (YtnbekdcepnfpaaaGreatDoor.Rows.machineGreatRow.loops == (Tryz.f11.params.toList ++ YtnbekdcepnfpaaaGreatDoor.Rows.machineGreatSpec.plain.varTypes Tryz.prog).any (Tryz.prog.loopsFrom ·)) && (YtnbekdcepnfpaaaGreatDoor.Rows.machineGreatRow.wideKeys == (Tryz.f11.params.toList ++ YtnbekdcepnfpaaaGreatDoor.Rows.machineGreatSpec.plain.varTypes Tryz.prog ++ Tryz.f11.resultTypes.toList).any (Tryz.prog.wideKeysFrom ·)) &&
  YtnbekdcepnfpaaaGreatDoor.Rows.machineGreatSpec.vars.all (Tryz.prog.varReadable ·) && Tryz.f11.resultTypes.all (fun t => Tryz.prog.readableRec t && decide (t < Tryz.prog.types.size)) && (YtnbekdcepnfpaaaGreatDoor.Rows.machineGreatRow.ifacesOut == Tryz.f11.resultTypes.toList.any (Tryz.prog.ifacesRec ·)) && (YtnbekdcepnfpaaaGreatDoor.Rows.machineGreatRow.loopsOut == Tryz.f11.resultTypes.toList.any (Tryz.prog.loopsFrom ·)) &&
  YtnbekdcepnfpaaaGreatDoor.Rows.machineGreatRow.shortTexts.isNone && (YtnbekdcepnfpaaaGreatDoor.Rows.machineGreatRow.kinds == (if YtnbekdcepnfpaaaGreatDoor.Rows.machineGreatRow.domain.isEmpty then [] else Tryz.f11.params.toList.map fun t => match Tryz.prog.underlying t with | some (.int k) => some k | _ => none)) && (YtnbekdcepnfpaaaGreatDoor.Rows.machineGreatRow.pinned == YtnbekdcepnfpaaaGreatDoor.Rows.machineGreatRow.pinnedBy) &&
  (YtnbekdcepnfpaaaGreatDoor.Rows.machineGreatRow.veiled == (Tryz.f11.params.toList ++ YtnbekdcepnfpaaaGreatDoor.Rows.machineGreatSpec.plain.varTypes Tryz.prog ++ Tryz.f11.resultTypes.toList).any (Tryz.prog.veiledRec ·)) && YtnbekdcepnfpaaaGreatDoor.Rows.machineGreatRow.veiledFits Tryz.prog Tryz.f11.params.toList (Tryz.f11.params.toList ++ YtnbekdcepnfpaaaGreatDoor.Rows.machineGreatSpec.plain.varTypes Tryz.prog ++ Tryz.f11.resultTypes.toList)) = true := by kernel_rfl
theorem machineGreat_joined : joinedFacts Tryz.prog 11 Tryz.f11 YtnbekdcepnfpaaaGreatDoor.Rows.machineGreatSpec YtnbekdcepnfpaaaGreatDoor.Rows.machineGreatRow = true := by
  have h1 := machineGreat_clos
  have h2 := machineGreat_small
  simp only [Bool.and_eq_true] at h1 h2
  obtain ⟨⟨⟨a9, a10⟩, a11⟩, a12⟩ := h1
  obtain ⟨⟨⟨⟨⟨⟨⟨⟨⟨⟨⟨⟨⟨⟨⟨⟨⟨⟨b0, b3⟩, b4⟩, b5⟩, b7⟩, b13⟩, b14⟩, b15⟩, b16⟩, b17⟩, b18⟩, b19⟩, b20⟩, b21⟩, b23⟩, b28⟩, b29⟩, b30⟩, b31⟩ := h2
  have c6 : (Tryz.prog.stops == []) = true := by rw [pk6]; rfl
  have c8 : (Tryz.prog.stopKnobs == []) = true := by rw [pk8]; rfl
  have c22 : (YtnbekdcepnfpaaaGreatDoor.Rows.machineGreatRow.plainKeys == Tryz.prog.plainKeys) = true := by rw [pk22]; rfl
  have c26 : (YtnbekdcepnfpaaaGreatDoor.Rows.machineGreatRow.lifted == Tryz.prog.liftsFinal) = true := by rw [pk26]; rfl
  have c27 : (Tryz.prog.make == some YtnbekdcepnfpaaaGreatDoor.Rows.machineGreatRow.make) = true := by rw [pk27]; rfl
  unfold joinedFacts
  simp only [Bool.and_eq_true]
  exact ⟨⟨⟨⟨⟨⟨⟨⟨⟨⟨⟨⟨⟨⟨⟨⟨⟨⟨⟨⟨⟨⟨⟨⟨⟨⟨⟨⟨⟨⟨⟨b0, pk1⟩, pk2⟩, b3⟩, b4⟩, b5⟩, c6⟩, b7⟩, c8⟩, a9⟩, a10⟩, a11⟩, a12⟩, b13⟩, b14⟩, b15⟩, b16⟩, b17⟩, b18⟩, b19⟩, b20⟩, b21⟩, c22⟩, b23⟩, pk24⟩, pk25⟩, c26⟩, c27⟩, b28⟩, b29⟩, b30⟩, b31⟩
theorem machineGreat_named : Tryz.prog.funcNamed YtnbekdcepnfpaaaGreatDoor.Rows.machineGreatRow.func = some 11 := by kernel_rfl
theorem machineGreat_lifted (os : Os) (started : os.Started) (H : Type) (enc : TypeId × Value → H) :
    ReturnsInHanded {} Tryz.checked os 11 .any (fun w args => (YtnbekdcepnfpaaaGreatDoor.Rows.machineGreatSpec.pre enc Tryz.prog Tryz.f11 [] false w args ∧ laidMetH Tryz.prog laidL w) ∧ sizedMet enc Tryz.prog Tryz.f11 (OpenSpec.ofChange YtnbekdcepnfpaaaGreatDoor.Rows.machineGreatSpec) false w args)
      (YtnbekdcepnfpaaaGreatDoor.Rows.machineGreatSpec.post enc Tryz.prog Tryz.f11 false true false false) := by
  refine returnsInHanded_of_change_and (C := Tryz.checked) (X := fun w _ => laidMetH Tryz.prog laidL w) (fun _ _ _ hh h => h.of_heap hh) own started (by kernel_rfl) Tryz.func11
    (ChangeSpec.witness_shaped (enc := enc) (C := Tryz.checked) (os := os) (X := fun w _ => laidMetH Tryz.prog laidL w) false (World.doorLaid Tryz.prog 14 os) #[.agg #[.int .i64 0, .int .i64 0, .float .f64 0, .float .f64 0], .int .i64 0] 8 rfl (World.shaped_of_RefB (by kernel_rfl) (by kernel_rfl)) (by kernel_rfl) (by kernel_rfl) (by kernel_rfl) (door_met os _)) ?_
  intro W base args ds gs before hval hW _ _ _ _
  exact post2 (nm := "machineGreat") (fun a b p q n w => great_law w) (by kernel_rfl) (by kernel_rfl) hval hW
end Go.E
namespace Go.Proofs.YtnbekdcepnfpaaaGreatDoor
open Go Go.E
theorem machineGreat_row : Rows.MachineGreatSaid :=
  OpenClaim.holds_of_wide 11 Tryz.f11 rfl rfl rfl rfl rfl rfl rfl ⟨rfl, rfl, rfl, rfl, rfl⟩ rfl rfl rfl rfl rfl machineGreat_named Tryz.func11 machineGreat_joined
    (of_decide_eq_true (by kernel_rfl)) (by unfold Func.isWrapper; first | (rw [if_pos (by decide +kernel)]; kernel_rfl) | (rw [if_neg (by decide +kernel)]; exact ⟨rfl, rfl⟩))
    (fun os started H enc _ => machineGreat_lifted os started H enc)
/-- MachineGreat: where one begins more than there is room for, it runs as the law says: the law returns true. -/
theorem machineGreat_holds : Rows.MachineGreatCardSaid :=
  Claim7.holds_tied_plain_at .later [] [.data] true (true, "a92ea1300edcac1fe5a6ab3cfda3c535aec35ae7aa7f61646b37891c2928003c") true
    machineGreat_row (fun _ h => by cases h) (by kernel_rfl) (fun _ h => by cases h) machineGreat_row_tie rfl ⟨rfl, rfl⟩ pkM rfl
    (fun f fn hf hfn => by
      obtain rfl : f = 11 := Option.some.inj (machineGreat_named.symm.trans hf) |>.symm
      obtain rfl : fn = Tryz.f11 := (Option.some.inj (Tryz.func11.symm.trans hfn)).symm
      exact ⟨pkL.symm, fun j t ht => by
        rw [show Tryz.f11.params = #[24, 3] by kernel_rfl] at ht
        have h3 : t = 24 ∨ t = 3 := by
          rcases j with _ | _ | j
          · exact .inl (by simpa using ht.symm)
          · exact .inr (by simpa using ht.symm)
          · simp at ht
        rcases h3 with rfl | rfl
        · exact pkW24
        · exact pkW3⟩)
    (by kernel_rfl)
end Go.Proofs.YtnbekdcepnfpaaaGreatDoor
end
