/- A machine that has nothing yet. -/
import Derived.Test.YtnbekdcepnfpaaaGreatDoorZ0
set_option linter.unusedVariables false
set_option linter.unusedSimpArgs false
set_option maxRecDepth 10000
noncomputable section
namespace Go.E
open Go Go.Proofs

/-- The law's program. -/
def freshP : List (List In) := [[⟨0, 0, 0, 0⟩]]
theorem fresh_good : GoodP 0 freshP := good_of (by decide) (by decide) (fun l hl => by
  simp only [freshP, List.mem_cons, List.not_mem_nil, or_false] at hl
  subst hl
  refine ⟨by decide, by decide, fun i hi => ?_⟩
  simp only [List.mem_cons, List.not_mem_nil, or_false] at hi
  subst hi
  exact ⟨rfl, rfl, rfl⟩)
set_option maxHeartbeats 1600000 in
theorem fresh_law {ps words : Int} {f1 f2 : Nat} {size : Int} (w : World) : Calls PP 3 #[.agg (cfgV ps words f1 f2).toArray, i64 size] w (fun e w' => e = .returned (.bool true) ∧ Ext w w') := by
  have hu := u64_bd size
  refine calls_den (fn := Tryz.f3) (args := [_, _]) Tryz.func3 rfl (by simp) (fun R hR => ?_)
  refine RUN.box (fun b2 w1 n1 => ?_)
  refine CVI.mk (IntKind.wrap .u64 size) rfl ?_
  refine ART.urem (by omega) (by omega) (by omega) (fun r1 g1 => ?_)
  refine CVI.i64 (by omega) (fun r2 g2 => ?_)
  refine ART.add (by omega) (fun k hk => ?_)
  have hk1 : 1 ≤ k ∧ k ≤ 256 := by omega
  obtain ⟨c, hc⟩ := isCl_ex hk1
  clear hk g2 g1 hu
  refine DRAW.q 5 [(0, .q), (1, .q), (2, .s), (3, .s), (4, .q)] (by kernel_rfl) (fun _ _ _ _ _ h => h) ?_
  refine RUNQ.lda (vs := cfgV ps words f1 f2) n1.here rfl (Nat.le_of_ble_eq_true rfl) rfl ?_
  intro w2 x2 y2
  refine RUN.buildSlice rfl rfl rfl rfl rfl rfl rfl (fun bi w3 n3 => ?_)
  refine ⟨y2.trans' n3.ext, ?_⟩
  intro w4 x4 y4
  refine RUN.buildSlice rfl rfl rfl rfl rfl rfl rfl (fun bf w5 n5 => ?_)
  refine ⟨y4.trans' n5.ext, ?_⟩
  have hi : At w5 bi (B (([⟨0, 0, 0, 0⟩] : List In).map inC).flatten 33) := n5.at (x4.at n3.here)
  have hf : FnAt w5 (fun y => y = bi ∨ y = bf) (some ⟨bf, 0, none⟩) 1 freshP := FnAt.one (MSl.lit hi (.inl rfl) rfl) n5.here (.inr rfl)
  refine CALLQ.mk _ rfl (fun w' hs => one_in) ?_
  intro w6 x6
  have hC := new_in (ps := ps) (words := words) (f1 := f1) (f2 := f2) (FnAt.fm.ext hf x6) fresh_good
  refine CALL.by hC rfl ?_
  rintro e w7 ⟨wb, bs, pct, n, rfl, hn, hn1, hn2, hp1, hp2, hbl, ⟨mb, xb, aa, ac, q7⟩, c7⟩
  have x06 : Ext w w6 := (n1.ext.trans' (y4.trans' n5.ext)).trans' x6
  have x07 : Ext w w7 := x06.trans c7 (fun y hy hh => by
    have z1 := n1.ext.size
    have z2 := y2.size
    have z4 := y4.size
    have b3 := n3.blk
    have b5 := n5.blk
    rcases hh with rfl | rfl <;> omega)
  refine RUN.ld (q7.blk 0 rfl) rfl (rfl) ?_
  refine CALL.by (rof_in hk1 hc w7) rfl ?_
  rintro e w8 ⟨rfl, x8⟩
  have hM : MAt w7 _ mb (σ0 0 freshP bs (fitWords words) n pct f1 f2) := q7.get 1 rfl
  have hh : (σ0 0 freshP bs (fitWords words) n pct f1 f2).hp = cHp0 n := rfl
  have hz := cpg_bd hc.1
  have hq0 : 0 ≤ (n - 1) / cpg c := Int.ediv_nonneg (by omega) (by omega)
  have hq1 : (n - 1) / cpg c ≤ n - 1 := Int.ediv_le_self _ (by omega)
  have ht := cst_bd hc.1
  have hm0 : 0 ≤ (n - 1) / cpg c * cst c := Int.mul_nonneg hq0 (by omega)
  have hm1 : (n - 1) / cpg c * cst c ≤ 2 ^ 30 * 64 := Int.mul_le_mul (by omega) ht.2 (by omega) (by decide)
  have g7 := x8.at (q7.blk 0 rfl)
  have hM8 := MAt.fm.ext hM x8
  refine DRAW.q 20 (qs 20 0) (by kernel_rfl) (fun _ _ _ _ _ h => h) ?_
  refine CALLQ.mk _ rfl (fun w' hs => told_in w') ?_
  refine RUNQ.ld g7 rfl (rfl) ?_
  refine CALLQ.mk _ rfl (fun w' hs => mroom_in (MAt.fm.ext hM8 hs) hh hk1 hc (by omega)) ?_
  refine RUNQ.ld g7 rfl (show _ = some (i64 (fitWords words)) from rfl) ?_
  refine ART.quo (by omega) (by omega) (by omega) (fun a1 h1 => ?_)
  refine ART.sub (by omega) (fun a2 h2 => ?_)
  refine CALLQ.mk _ rfl (fun w' hs => rpages_in rfl hc.1 w') ?_
  refine ART.quo (by omega) (by omega) (by omega) (fun a3 h3 => ?_)
  refine CALLQ.mk _ rfl (fun w' hs => rslots_in rfl hc.1 w') ?_
  intro w9 x9
  have e2 : a2 = n - 1 := by omega
  subst e2
  subst h3
  refine ART.mul (by omega) (fun a4 h4 => ?_)
  refine CEq.yes (by omega) ?_
  refine RUN.ld (x9.at g7) rfl (rfl) ?_
  refine CALL.by (mroom_out (MAt.fm.ext hM8 x9) hh) rfl ?_
  rintro e w10 ⟨rfl, x10⟩
  refine CEq.yes (rfl) ?_
  exact hR _ _ ⟨rfl, ((x07.trans' x8).trans' x9).trans' x10⟩
end Go.E
end
