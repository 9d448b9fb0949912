/- MachineFresh: a machine that has nothing yet answers as the law says, at every configuration: the law returns true. -/
import Derived.Test.YtnbekdcepnfpaaaGreatDoorRB1
import Derived.Test.YtnbekdcepnfpaaaGreatDoorRB2
import Derived.Test.YtnbekdcepnfpaaaGreatDoorRB3
import Derived.Test.YtnbekdcepnfpaaaGreatDoorL11
set_option linter.unusedVariables false
set_option linter.unusedSimpArgs false
set_option maxRecDepth 100000
noncomputable section
namespace Go.E
open Go Go.Proofs Go.ChangeShapes Go.WideShapes Go.RowKit
theorem machineFresh_clos : ((YtnbekdcepnfpaaaGreatDoor.Rows.machineFreshRow.inPlace == Tryz.prog.inPlace 3) && (YtnbekdcepnfpaaaGreatDoor.Rows.machineFreshRow.unfollowed == Tryz.prog.unfollowed 3) && (YtnbekdcepnfpaaaGreatDoor.Rows.machineFreshRow.recurses == Tryz.prog.recurses 3) && (YtnbekdcepnfpaaaGreatDoor.Rows.machineFreshRow.named == Tryz.prog.varsNamed 3)) = true := by kernel_rfl
theorem machineFresh_small : (YtnbekdcepnfpaaaGreatDoor.Rows.machineFreshRow.wf (OpenSpec.ofChange YtnbekdcepnfpaaaGreatDoor.Rows.machineFreshSpec) && Tryz.f3.params.all (Tryz.prog.readableRec ·) && namedTie Tryz.prog YtnbekdcepnfpaaaGreatDoor.Rows.machineFreshRow.named YtnbekdcepnfpaaaGreatDoor.Rows.machineFreshSpec.vars && (YtnbekdcepnfpaaaGreatDoor.Rows.machineFreshRow.stops == []) && (YtnbekdcepnfpaaaGreatDoor.Rows.machineFreshRow.knobs == []) &&
  (YtnbekdcepnfpaaaGreatDoor.Rows.machineFreshRow.maps == (Tryz.f3.params.toList ++ YtnbekdcepnfpaaaGreatDoor.Rows.machineFreshSpec.plain.varTypes Tryz.prog).any (Tryz.prog.mapsRec ·)) && (YtnbekdcepnfpaaaGreatDoor.Rows.machineFreshRow.ifaces == (Tryz.f3.params.toList ++ YtnbekdcepnfpaaaGreatDoor.Rows.machineFreshSpec.plain.varTypes Tryz.prog).any (Tryz.prog.ifacesRec ·)) && (YtnbekdcepnfpaaaGreatDoor.Rows.machineFreshRow.mapsOut == Tryz.prog.mapsAmong Tryz.f3.resultTypes.toList) &&
  (YtnbekdcepnfpaaaGreatDoor.Rows.machineFreshRow.loops == (Tryz.f3.params.toList ++ YtnbekdcepnfpaaaGreatDoor.Rows.machineFreshSpec.plain.varTypes Tryz.prog).any (Tryz.prog.loopsFrom ·)) && (YtnbekdcepnfpaaaGreatDoor.Rows.machineFreshRow.wideKeys == (Tryz.f3.params.toList ++ YtnbekdcepnfpaaaGreatDoor.Rows.machineFreshSpec.plain.varTypes Tryz.prog ++ Tryz.f3.resultTypes.toList).any (Tryz.prog.wideKeysFrom ·)) &&
  YtnbekdcepnfpaaaGreatDoor.Rows.machineFreshSpec.vars.all (Tryz.prog.varReadable ·) && Tryz.f3.resultTypes.all (fun t => Tryz.prog.readableRec t && decide (t < Tryz.prog.types.size)) && (YtnbekdcepnfpaaaGreatDoor.Rows.machineFreshRow.ifacesOut == Tryz.f3.resultTypes.toList.any (Tryz.prog.ifacesRec ·)) && (YtnbekdcepnfpaaaGreatDoor.Rows.machineFreshRow.loopsOut == Tryz.f3.resultTypes.toList.any (Tryz.prog.loopsFrom ·)) &&
  YtnbekdcepnfpaaaGreatDoor.Rows.machineFreshRow.shortTexts.isNone && (YtnbekdcepnfpaaaGreatDoor.Rows.machineFreshRow.kinds == (if YtnbekdcepnfpaaaGreatDoor.Rows.machineFreshRow.domain.isEmpty then [] else Tryz.f3.params.toList.map fun t => match Tryz.prog.underlying t with | some (.int k) => some k | _ => none)) && (YtnbekdcepnfpaaaGreatDoor.Rows.machineFreshRow.pinned == YtnbekdcepnfpaaaGreatDoor.Rows.machineFreshRow.pinnedBy) &&
  (YtnbekdcepnfpaaaGreatDoor.Rows.machineFreshRow.veiled == (Tryz.f3.params.toList ++ YtnbekdcepnfpaaaGreatDoor.Rows.machineFreshSpec.plain.varTypes Tryz.prog ++ Tryz.f3.resultTypes.toList).any (Tryz.prog.veiledRec ·)) && YtnbekdcepnfpaaaGreatDoor.Rows.machineFreshRow.veiledFits Tryz.prog Tryz.f3.params.toList (Tryz.f3.params.toList ++ YtnbekdcepnfpaaaGreatDoor.Rows.machineFreshSpec.plain.varTypes Tryz.prog ++ Tryz.f3.resultTypes.toList)) = true := by kernel_rfl
theorem machineFresh_joined : joinedFacts Tryz.prog 3 Tryz.f3 YtnbekdcepnfpaaaGreatDoor.Rows.machineFreshSpec YtnbekdcepnfpaaaGreatDoor.Rows.machineFreshRow = true := by
  have h1 := machineFresh_clos
  have h2 := machineFresh_small
  simp only [Bool.and_eq_true] at h1 h2
  obtain ⟨⟨⟨a9, a10⟩, a11⟩, a12⟩ := h1
  obtain ⟨⟨⟨⟨⟨⟨⟨⟨⟨⟨⟨⟨⟨⟨⟨⟨⟨⟨b0, b3⟩, b4⟩, b5⟩, b7⟩, b13⟩, b14⟩, b15⟩, b16⟩, b17⟩, b18⟩, b19⟩, b20⟩, b21⟩, b23⟩, b28⟩, b29⟩, b30⟩, b31⟩ := h2
  have c6 : (Tryz.prog.stops == []) = true := by rw [pk6]; rfl
  have c8 : (Tryz.prog.stopKnobs == []) = true := by rw [pk8]; rfl
  have c22 : (YtnbekdcepnfpaaaGreatDoor.Rows.machineFreshRow.plainKeys == Tryz.prog.plainKeys) = true := by rw [pk22]; rfl
  have c26 : (YtnbekdcepnfpaaaGreatDoor.Rows.machineFreshRow.lifted == Tryz.prog.liftsFinal) = true := by rw [pk26]; rfl
  have c27 : (Tryz.prog.make == some YtnbekdcepnfpaaaGreatDoor.Rows.machineFreshRow.make) = true := by rw [pk27]; rfl
  unfold joinedFacts
  simp only [Bool.and_eq_true]
  exact ⟨⟨⟨⟨⟨⟨⟨⟨⟨⟨⟨⟨⟨⟨⟨⟨⟨⟨⟨⟨⟨⟨⟨⟨⟨⟨⟨⟨⟨⟨⟨b0, pk1⟩, pk2⟩, b3⟩, b4⟩, b5⟩, c6⟩, b7⟩, c8⟩, a9⟩, a10⟩, a11⟩, a12⟩, b13⟩, b14⟩, b15⟩, b16⟩, b17⟩, b18⟩, b19⟩, b20⟩, b21⟩, c22⟩, b23⟩, pk24⟩, pk25⟩, c26⟩, c27⟩, b28⟩, b29⟩, b30⟩, b31⟩
theorem machineFresh_named : Tryz.prog.funcNamed YtnbekdcepnfpaaaGreatDoor.Rows.machineFreshRow.func = some 3 := by kernel_rfl
theorem machineFresh_lifted (os : Os) (started : os.Started) (H : Type) (enc : TypeId × Value → H) :
    ReturnsInHanded {} Tryz.checked os 3 .any (fun w args => (YtnbekdcepnfpaaaGreatDoor.Rows.machineFreshSpec.pre enc Tryz.prog Tryz.f3 [] false w args ∧ laidMetH Tryz.prog laidL w) ∧ sizedMet enc Tryz.prog Tryz.f3 (OpenSpec.ofChange YtnbekdcepnfpaaaGreatDoor.Rows.machineFreshSpec) false w args)
      (YtnbekdcepnfpaaaGreatDoor.Rows.machineFreshSpec.post enc Tryz.prog Tryz.f3 false true false false) := by
  refine returnsInHanded_of_change_and (C := Tryz.checked) (X := fun w _ => laidMetH Tryz.prog laidL w) (fun _ _ _ hh h => h.of_heap hh) own started (by kernel_rfl) Tryz.func3
    (ChangeSpec.witness_shaped (enc := enc) (C := Tryz.checked) (os := os) (X := fun w _ => laidMetH Tryz.prog laidL w) false (World.doorLaid Tryz.prog 14 os) #[.agg #[.int .i64 0, .int .i64 0, .float .f64 0, .float .f64 0], .int .i64 0] 8 rfl (World.shaped_of_RefB (by kernel_rfl) (by kernel_rfl)) (by kernel_rfl) (by kernel_rfl) (by kernel_rfl) (door_met os _)) ?_
  intro W base args ds gs before hval hW _ _ _ _
  exact post2 (nm := "machineFresh") (fun a b p q n w => fresh_law w) (by kernel_rfl) (by kernel_rfl) hval hW
end Go.E
namespace Go.Proofs.YtnbekdcepnfpaaaGreatDoor
open Go Go.E
theorem machineFresh_row : Rows.MachineFreshSaid :=
  OpenClaim.holds_of_wide 3 Tryz.f3 rfl rfl rfl rfl rfl rfl rfl ⟨rfl, rfl, rfl, rfl, rfl⟩ rfl rfl rfl rfl rfl machineFresh_named Tryz.func3 machineFresh_joined
    (of_decide_eq_true (by kernel_rfl)) (by unfold Func.isWrapper; first | (rw [if_pos (by decide +kernel)]; kernel_rfl) | (rw [if_neg (by decide +kernel)]; exact ⟨rfl, rfl⟩))
    (fun os started H enc _ => machineFresh_lifted os started H enc)
/-- MachineFresh: a machine that has nothing yet answers as the law says, at every configuration: the law returns true. -/
theorem machineFresh_holds : Rows.MachineFreshCardSaid :=
  Claim7.holds_tied_plain_at .later [] [.data] true (true, "a92ea1300edcac1fe5a6ab3cfda3c535aec35ae7aa7f61646b37891c2928003c") true
    machineFresh_row (fun _ h => by cases h) (by kernel_rfl) (fun _ h => by cases h) machineFresh_row_tie rfl ⟨rfl, rfl⟩ pkM rfl
    (fun f fn hf hfn => by
      obtain rfl : f = 3 := Option.some.inj (machineFresh_named.symm.trans hf) |>.symm
      obtain rfl : fn = Tryz.f3 := (Option.some.inj (Tryz.func3.symm.trans hfn)).symm
      exact ⟨pkL.symm, fun j t ht => by
        rw [show Tryz.f3.params = #[24, 3] by kernel_rfl] at ht
        have h3 : t = 24 ∨ t = 3 := by
          rcases j with _ | _ | j
          · exact .inl (by simpa using ht.symm)
          · exact .inr (by simpa using ht.symm)
          · simp at ht
        rcases h3 with rfl | rfl
        · exact pkW24
        · exact pkW3⟩)
    (by kernel_rfl)
end Go.Proofs.YtnbekdcepnfpaaaGreatDoor
end
