/- MachineFaults: where some do what cannot be done, it runs as the law says: the law returns true. -/
import Derived.Test.YtnbekdcepnfpaaaGreatDoorRB1
import Derived.Test.YtnbekdcepnfpaaaGreatDoorRB2
import Derived.Test.YtnbekdcepnfpaaaGreatDoorRB3
import Derived.Test.YtnbekdcepnfpaaaGreatDoorG43
set_option linter.unusedVariables false
set_option linter.unusedSimpArgs false
set_option maxRecDepth 100000
noncomputable section
namespace Go.E
open Go Go.Proofs Go.ChangeShapes Go.WideShapes Go.RowKit
theorem machineFaults_clos : ((YtnbekdcepnfpaaaGreatDoor.Rows.machineFaultsRow.inPlace == Tryz.prog.inPlace 12) && (YtnbekdcepnfpaaaGreatDoor.Rows.machineFaultsRow.unfollowed == Tryz.prog.unfollowed 12) && (YtnbekdcepnfpaaaGreatDoor.Rows.machineFaultsRow.recurses == Tryz.prog.recurses 12) && (YtnbekdcepnfpaaaGreatDoor.Rows.machineFaultsRow.named == Tryz.prog.varsNamed 12)) = true := by kernel_rfl
theorem machineFaults_small : (YtnbekdcepnfpaaaGreatDoor.Rows.machineFaultsRow.wf (OpenSpec.ofChange YtnbekdcepnfpaaaGreatDoor.Rows.machineFaultsSpec) && Tryz.f12.params.all (Tryz.prog.readableRec ·) && namedTie Tryz.prog YtnbekdcepnfpaaaGreatDoor.Rows.machineFaultsRow.named YtnbekdcepnfpaaaGreatDoor.Rows.machineFaultsSpec.vars && (YtnbekdcepnfpaaaGreatDoor.Rows.machineFaultsRow.stops == []) && (YtnbekdcepnfpaaaGreatDoor.Rows.machineFaultsRow.knobs == []) &&
  (YtnbekdcepnfpaaaGreatDoor.Rows.machineFaultsRow.maps == (Tryz.f12.params.toList ++ YtnbekdcepnfpaaaGreatDoor.Rows.machineFaultsSpec.plain.varTypes Tryz.prog).any (Tryz.prog.mapsRec ·)) && (YtnbekdcepnfpaaaGreatDoor.Rows.machineFaultsRow.ifaces == (Tryz.f12.params.toList ++ YtnbekdcepnfpaaaGreatDoor.Rows.machineFaultsSpec.plain.varTypes Tryz.prog).any (Tryz.prog.ifacesRec ·)) && (YtnbekdcepnfpaaaGreatDoor.Rows.machineFaultsRow.mapsOut == Tryz.prog.mapsAmong Tryz.f12.resultTypes.toList) &&
  (YtnbekdcepnfpaaaGreatDoor.Rows.machineFaultsRow.loops == (Tryz.f12.params.toList ++ YtnbekdcepnfpaaaGreatDoor.Rows.machineFaultsSpec.plain.varTypes Tryz.prog).any (Tryz.prog.loopsFrom ·)) && (YtnbekdcepnfpaaaGreatDoor.Rows.machineFaultsRow.wideKeys == (Tryz.f12.params.toList ++ YtnbekdcepnfpaaaGreatDoor.Rows.machineFaultsSpec.plain.varTypes Tryz.prog ++ Tryz.f12.resultTypes.toList).any (Tryz.prog.wideKeysFrom ·)) &&
  YtnbekdcepnfpaaaGreatDoor.Rows.machineFaultsSpec.vars.all (Tryz.prog.varReadable ·) && Tryz.f12.resultTypes.all (fun t => Tryz.prog.readableRec t && decide (t < Tryz.prog.types.size)) && (YtnbekdcepnfpaaaGreatDoor.Rows.machineFaultsRow.ifacesOut == Tryz.f12.resultTypes.toList.any (Tryz.prog.ifacesRec ·)) && (YtnbekdcepnfpaaaGreatDoor.Rows.machineFaultsRow.loopsOut == Tryz.f12.resultTypes.toList.any (Tryz.prog.loopsFrom ·)) &&
  YtnbekdcepnfpaaaGreatDoor.Rows.machineFaultsRow.shortTexts.isNone && (YtnbekdcepnfpaaaGreatDoor.Rows.machineFaultsRow.kinds == (if YtnbekdcepnfpaaaGreatDoor.Rows.machineFaultsRow.domain.isEmpty then [] else Tryz.f12.params.toList.map fun t => match Tryz.prog.underlying t with | some (.int k) => some k | _ => none)) && (YtnbekdcepnfpaaaGreatDoor.Rows.machineFaultsRow.pinned == YtnbekdcepnfpaaaGreatDoor.Rows.machineFaultsRow.pinnedBy) &&
  (YtnbekdcepnfpaaaGreatDoor.Rows.machineFaultsRow.veiled == (Tryz.f12.params.toList ++ YtnbekdcepnfpaaaGreatDoor.Rows.machineFaultsSpec.plain.varTypes Tryz.prog ++ Tryz.f12.resultTypes.toList).any (Tryz.prog.veiledRec ·)) && YtnbekdcepnfpaaaGreatDoor.Rows.machineFaultsRow.veiledFits Tryz.prog Tryz.f12.params.toList (Tryz.f12.params.toList ++ YtnbekdcepnfpaaaGreatDoor.Rows.machineFaultsSpec.plain.varTypes Tryz.prog ++ Tryz.f12.resultTypes.toList)) = true := by kernel_rfl
theorem machineFaults_joined : joinedFacts Tryz.prog 12 Tryz.f12 YtnbekdcepnfpaaaGreatDoor.Rows.machineFaultsSpec YtnbekdcepnfpaaaGreatDoor.Rows.machineFaultsRow = true := by
  have h1 := machineFaults_clos
  have h2 := machineFaults_small
  simp only [Bool.and_eq_true] at h1 h2
  obtain ⟨⟨⟨a9, a10⟩, a11⟩, a12⟩ := h1
  obtain ⟨⟨⟨⟨⟨⟨⟨⟨⟨⟨⟨⟨⟨⟨⟨⟨⟨⟨b0, b3⟩, b4⟩, b5⟩, b7⟩, b13⟩, b14⟩, b15⟩, b16⟩, b17⟩, b18⟩, b19⟩, b20⟩, b21⟩, b23⟩, b28⟩, b29⟩, b30⟩, b31⟩ := h2
  have c6 : (Tryz.prog.stops == []) = true := by rw [pk6]; rfl
  have c8 : (Tryz.prog.stopKnobs == []) = true := by rw [pk8]; rfl
  have c22 : (YtnbekdcepnfpaaaGreatDoor.Rows.machineFaultsRow.plainKeys == Tryz.prog.plainKeys) = true := by rw [pk22]; rfl
  have c26 : (YtnbekdcepnfpaaaGreatDoor.Rows.machineFaultsRow.lifted == Tryz.prog.liftsFinal) = true := by rw [pk26]; rfl
  have c27 : (Tryz.prog.make == some YtnbekdcepnfpaaaGreatDoor.Rows.machineFaultsRow.make) = true := by rw [pk27]; rfl
  unfold joinedFacts
  simp only [Bool.and_eq_true]
  exact ⟨⟨⟨⟨⟨⟨⟨⟨⟨⟨⟨⟨⟨⟨⟨⟨⟨⟨⟨⟨⟨⟨⟨⟨⟨⟨⟨⟨⟨⟨⟨b0, pk1⟩, pk2⟩, b3⟩, b4⟩, b5⟩, c6⟩, b7⟩, c8⟩, a9⟩, a10⟩, a11⟩, a12⟩, b13⟩, b14⟩, b15⟩, b16⟩, b17⟩, b18⟩, b19⟩, b20⟩, b21⟩, c22⟩, b23⟩, pk24⟩, pk25⟩, c26⟩, c27⟩, b28⟩, b29⟩, b30⟩, b31⟩
theorem machineFaults_named : Tryz.prog.funcNamed YtnbekdcepnfpaaaGreatDoor.Rows.machineFaultsRow.func = some 12 := by kernel_rfl
theorem machineFaults_lifted (os : Os) (started : os.Started) (H : Type) (enc : TypeId × Value → H) :
    ReturnsInHanded {} Tryz.checked os 12 .any (fun w args => (YtnbekdcepnfpaaaGreatDoor.Rows.machineFaultsSpec.pre enc Tryz.prog Tryz.f12 [] false w args ∧ laidMetH Tryz.prog laidL w) ∧ sizedMet enc Tryz.prog Tryz.f12 (OpenSpec.ofChange YtnbekdcepnfpaaaGreatDoor.Rows.machineFaultsSpec) false w args)
      (YtnbekdcepnfpaaaGreatDoor.Rows.machineFaultsSpec.post enc Tryz.prog Tryz.f12 false true false false) := by
  refine returnsInHanded_of_change_and (C := Tryz.checked) (X := fun w _ => laidMetH Tryz.prog laidL w) (fun _ _ _ hh h => h.of_heap hh) own started (by kernel_rfl) Tryz.func12
    (ChangeSpec.witness_shaped (enc := enc) (C := Tryz.checked) (os := os) (X := fun w _ => laidMetH Tryz.prog laidL w) false (World.doorLaid Tryz.prog 14 os) #[.agg #[.int .i64 0, .int .i64 0, .float .f64 0, .float .f64 0], .int .i64 0, .int .i64 0] 8 rfl (World.shaped_of_RefB (by kernel_rfl) (by kernel_rfl)) (by kernel_rfl) (by kernel_rfl) (by kernel_rfl) (door_met os _)) ?_
  intro W base args ds gs before hval hW _ _ _ _
  exact post3 (nm := "machineFaults") (fun a b p q n m w => faults_law w) (by kernel_rfl) (by kernel_rfl) hval hW
end Go.E
namespace Go.Proofs.YtnbekdcepnfpaaaGreatDoor
open Go Go.E
theorem machineFaults_row : Rows.MachineFaultsSaid :=
  OpenClaim.holds_of_wide 12 Tryz.f12 rfl rfl rfl rfl rfl rfl rfl ⟨rfl, rfl, rfl, rfl, rfl⟩ rfl rfl rfl rfl rfl machineFaults_named Tryz.func12 machineFaults_joined
    (of_decide_eq_true (by kernel_rfl)) (by unfold Func.isWrapper; first | (rw [if_pos (by decide +kernel)]; kernel_rfl) | (rw [if_neg (by decide +kernel)]; exact ⟨rfl, rfl⟩))
    (fun os started H enc _ => machineFaults_lifted os started H enc)
/-- MachineFaults: where some do what cannot be done, it runs as the law says: the law returns true. -/
theorem machineFaults_holds : Rows.MachineFaultsCardSaid :=
  Claim7.holds_tied_plain_at .later [] [.data] true (true, "a92ea1300edcac1fe5a6ab3cfda3c535aec35ae7aa7f61646b37891c2928003c") true
    machineFaults_row (fun _ h => by cases h) (by kernel_rfl) (fun _ h => by cases h) machineFaults_row_tie rfl ⟨rfl, rfl⟩ pkM rfl
    (fun f fn hf hfn => by
      obtain rfl : f = 12 := Option.some.inj (machineFaults_named.symm.trans hf) |>.symm
      obtain rfl : fn = Tryz.f12 := (Option.some.inj (Tryz.func12.symm.trans hfn)).symm
      exact ⟨pkL.symm, fun j t ht => by
        rw [show Tryz.f12.params = #[24, 3, 3] by kernel_rfl] at ht
        have h3 : t = 24 ∨ t = 3 := by
          rcases j with _ | _ | _ | j
          · exact .inl (by simpa using ht.symm)
          · exact .inr (by simpa using ht.symm)
          · exact .inr (by simpa using ht.symm)
          · simp at ht
        rcases h3 with rfl | rfl
        · exact pkW24
        · exact pkW3⟩)
    (by kernel_rfl)
end Go.Proofs.YtnbekdcepnfpaaaGreatDoor
end
