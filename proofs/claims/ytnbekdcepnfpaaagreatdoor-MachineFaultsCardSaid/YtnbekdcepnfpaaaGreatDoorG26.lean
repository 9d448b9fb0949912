/- A step of a machine without a collector. -/
import Derived.Test.YtnbekdcepnfpaaaGreatDoorG25
set_option linter.unusedVariables false
set_option linter.unusedSimpArgs false
set_option maxRecDepth 10000
noncomputable section
namespace Go.E
open Go Go.Proofs

/-- Why a step may commit nothing. -/
def IdleC (p : Nat) (pre : Bool) (σ : MS) : Prop := statusF σ ≠ 0 ∨ pre = true ∨ ∃ x, σ.ps[p]? = some x ∧ (2 ≤ x.row ∨ (x.g = -1 ∧ row σ p = [] ∧ σ.common = []))
/-- What a step comes to. -/
structure StepS (p : Nat) (pre : Bool) (σ σ' : MS) (e : Ending) : Prop where
  inv : Inv σ'
  fs : σ'.fs = σ.fs
  steps : σ'.steps ≤ σ.steps + 1
  psl : σ'.ps.length = σ.ps.length
  out : (∃ k g : Int, k ≠ 1 ∧ e = .returned (evV k g) ∧ coreM σ' = coreM σ ∧ σ'.commits = σ.commits ∧ IdleC p pre σ) ∨
    ∃ (g : Nat) (z : CG) (cm : Cmt), e = .returned (evV 1 g) ∧ statusF σ = 0 ∧ (coreM σ).gs[g]? = some z ∧ z.st = 1 ∧ cex (coreM σ) g z (instAt σ.fs z.f z.pc) = (coreM σ', cm) ∧ σ'.commits = σ.commits ++ [cm]
def chC (p v : Int) (pre : Bool) (d : Int) : List Value := [i64 p, i64 v, .bool pre, i64 d]
theorem InvK.freed {σ : MS} (I : Inv σ) : Inv { σ with freed := [] } :=
  ⟨I.pf, ⟨I.off.ph, I.off.force, I.off.hl, I.off.bg, I.off.part⟩, I.hn, I.out, I.rl, I.pl, I.gl, I.sl, I.wl, I.tm, I.gs, I.ps, I.sch, I.cm, I.clk, I.stp⟩
theorem freed_in {w0 w w' : World} {S0 S : Nat → Prop} {b : Nat} {σ : MS} {L : ML} {bx : List Cmp} (Q : Rn w0 S0 w S (mP b σ L ++ bx)) (u : Upd w w' b (B ((mC σ L).set 25 nils) 114)) :
    ∃ S', Rn w0 S0 w' S' (mP b { σ with freed := [] } { L with ea := none, ec := 0 } ++ bx) := by
  have Q1 := Q.st 0 rfl u
  obtain ⟨Si, si, hP, cl⟩ := Q1.step 16 rfl
  obtain ⟨S2, Q2, _, _⟩ := cl (cVS 3 none 0 []) (Ch.refl _ _) (Own.refl _ _) (VS.nil _ _ _)
  exact ⟨S2, Q2⟩
theorem step_in {w : World} {S : Nat → Prop} {b p : Nat} {pi v d : Int} {pre : Bool} {σ : MS} (h : MAt w S b σ) (I : Inv σ) (hs : σ.steps ≤ 2 ^ 23) (hpi : pi = p) (hp : p < σ.ps.length) (hpl0 : ∀ z ∈ (coreM σ).gs, z.st = 1 → plainI σ.fs.length (instAt σ.fs z.f z.pc)) :
    Calls PP 53 #[pt b, .agg (chC pi v pre d).toArray] w (fun e w' => ∃ σ', StepS p pre σ σ' e ∧ MAt w' (Nw w S) b σ' ∧ Ch S w w') := by
  subst hpi
  obtain ⟨L, sd⟩ := h
  obtain ⟨S1, s1, Q⟩ := Rn.start sd
  have hx : σ.ps[p]? = some σ.ps[p] := List.getElem?_eq_getElem hp
  generalize σ.ps[p] = x at hx
  obtain ⟨pb, hpb⟩ := Q.pat hx
  refine calls_sem (fn := Tryz.f53) (args := [_, _]) Tryz.func53 rfl (by simp) (fun R hR => ?_)
  refine SEM.cut (X := Nat × Nat) 3 (fun t => [(0, pt b), (3, pt t.1), (4, pt t.2), (5, i64 p)])
    (fun t w' => statusF σ = 0 ∧ ∃ S', Rn w S w' S' (mP b { σ with freed := [] } { L with ea := none, ec := 0 } ++ [cAt t.1 (B (chC p v pre d) 43), cAt t.2 (B [i64 0, i64 0, i64 0] 58)])) rfl ?_ ?_
  · refine RUN.box (fun b3 w1 n1 => ?_)
    refine RUN.alloc rfl rfl (fun b4 w2 n2 => ?_)
    obtain ⟨T1, Q1, k1⟩ := Q.add1 n1
    obtain ⟨T2, Q2, k2⟩ := Q1.add1 n2
    replace Q2 : Rn w S w2 T2 (mP b σ L ++ [cAt b3 (B (chC p v pre d) 43), cAt b4 (B [i64 0, i64 0, i64 0] 58)]) := Q2
    refine RUN.stl (Q2.blk 0 rfl) rfl (Nat.le_of_ble_eq_true rfl) (fun w3 u3 => ?_)
    obtain ⟨T3, Q3⟩ := freed_in Q2 u3
    refine RUN.ld (Q3.blk 17 rfl) rfl (rfl) ?_
    refine CALL.by (mhas_in Q3.bmq) rfl ?_
    rintro e w4 ⟨rfl, x4⟩
    rw [decide_eq_true (by show 0 ≤ (p : Int) ∧ (p : Int) < σ.ps.length; omega)]
    refine CALL.by (status_in (Q3.ext x4).bmq) rfl ?_
    rintro e w5 ⟨rfl, x5⟩
    have Q5 := (Q3.ext x4).ext x5
    by_cases h0 : statusF σ = 0
    · refine CEq.yes (h0) ?_
      exact ⟨rfl, (b3, b4), ⟨rfl, rfl, rfl, rfl, trivial⟩, h0, T3, Q5⟩
    · refine CEq.no (h0) ?_
      refine CALL.by (event_in w5) rfl ?_
      rintro e w6 ⟨rfl, x6⟩
      have Q6 := Q5.ext x6
      refine RUN.sta (vs := [i64 0, i64 (-1), i64 0]) (Q6.blk 18 rfl) rfl (by simp) (by simp [Value.oneCell']) (fun w7 u7 => ?_)
      have Q7 := Q6.st 18 rfl u7
      refine RUN.lda (vs := [i64 0, i64 (-1), i64 0]) u7.here rfl (Nat.le_of_ble_eq_true rfl) rfl ?_
      exact ⟨rfl, hR _ _ ⟨_, ⟨I.freed, rfl, by show σ.steps ≤ _; omega, rfl, .inl ⟨0, -1, by decide, rfl, rfl, rfl, .inl h0⟩⟩, fin_store Q7, Q7.cc⟩⟩
  rintro ⟨b3, b4⟩ w1 ⟨h0, T1, Q1⟩ j1
  simp only at Q1
  refine SEM.cut (X := Unit) 4 (fun t => [(0, pt b), (3, pt b3), (4, pt b4), (5, i64 p), (6, pt pb)])
    (fun t w' => ∃ S', Rn w S w' S' (mP b (tickS σ p x (min (max d 0) 1048576)) { L with ea := none, ec := 0 } ++ [cAt b3 (B (chC p v pre d) 43), cAt b4 (B [i64 0, i64 0, i64 0] 58)])) rfl ?_ ?_
  · obtain ⟨sb, so, pre1, post, he, r1, r2, r3, hpl⟩ := Q1.bpsl (p := p) hpb
    have hb := I.ps x (List.mem_of_getElem? hx)
    have hclk := I.clk
    refine RUN.ld (Q1.blk 0 rfl) rfl ((mC_ps he)) ?_
    refine BD.mk (so + p * 1) (by first | exact ⟨by decide, by decide, rfl⟩ | exact ⟨by omega, by omega, by omega⟩) ?_
    refine RUN.ld r2 rfl ((app_get r3 (pts_get hpb) rfl)) ?_
    refine RUN.ld (Q1.blk 0 rfl) rfl (show _ = some (i64 σ.steps) from rfl) ?_
    refine ART.add (by omega) (fun r2' hr2 => ?_)
    refine RUN.sti (Q1.blk 0 rfl) rfl (Nat.le_of_ble_eq_true rfl) (fun w2 u2 => ?_)
    have Q2 := Q1.st 0 rfl u2
    subst hr2
    replace Q2 : Rn w S w2 T1 (mP b { σ with freed := [], steps := σ.steps + 1 } { L with ea := none, ec := 0 } ++ [cAt b3 (B (chC p v pre d) 43), cAt b4 (B [i64 0, i64 0, i64 0] 58)]) := Q2
    have hx2 : ({ σ with freed := [], steps := σ.steps + 1 } : MS).ps[p]? = some x := hx
    refine RUN.ld (Q2.bprc hx2 hpb) rfl (show _ = some (i64 x.all) from rfl) ?_
    refine ART.add (by omega) (fun r3' hr3 => ?_)
    refine RUN.sti (Q2.bprc hx2 hpb) rfl (by simp [prcC]) (fun w3 u3 => ?_)
    subst hr3
    have Q3 := Q2.bsetP (x := x) (x' := { x with all := x.all + 1 }) hx2 hpb rfl u3
    refine DRAW.q 10 (qs 10 0) (by kernel_rfl) (fun _ _ _ _ _ h => h) ?_
    refine RUNQ.ld (Q3.blk 0 rfl) rfl (show _ = some (i64 σ.clock) from rfl) ?_
    refine RUNQ.ld (Q3.blk 17 rfl) rfl (show _ = some (i64 d) from rfl) ?_
    refine RUNQ.max2 (fun m1 g1 => ?_)
    refine RUNQ.min2 (fun m2 g2 => ?_)
    refine ART.add (by omega) (fun m3 g3 => ?_)
    intro w4 x4
    have Q4 := Q3.ext x4
    refine RUN.sti (Q4.blk 0 rfl) rfl (Nat.le_of_ble_eq_true rfl) (fun w5 u5 => ?_)
    have Q5 := Q4.st 0 rfl u5
    have e3 : m3 = σ.clock + min (max d 0) 1048576 := by omega
    subst e3
    replace Q5 : Rn w S w5 T1 (mP b (tickS σ p x (min (max d 0) 1048576)) { L with ea := none, ec := 0 } ++ [cAt b3 (B (chC p v pre d) 43), cAt b4 (B [i64 0, i64 0, i64 0] 58)]) := Q5
    have htm := Q5.get 9 rfl
    rw [show (tickS σ p x (min (max d 0) 1048576)).tim = [] from I.tm] at htm
    refine DRAW.q 11 [(0, .q), (1, .q), (2, .q), (3, .q), (4, .q), (5, .q), (6, .q), (7, .q), (10, .q), (8, .s), (9, .q)] (by kernel_rfl) (fun _ _ _ _ _ h => h) ?_
    refine RUNQ.ld (Q5.blk 0 rfl) rfl (rfl) ?_
    refine RUNQ.ld (Q5.blk 0 rfl) rfl (show _ = some (i64 (σ.clock + min (max d 0) 1048576)) from rfl) ?_
    intro w6 x6 y6
    refine CALL.by (due_none (TmAt.fm.ext htm x6) _) rfl ?_
    rintro e w7 ⟨rfl, x7⟩
    refine ⟨y6.trans' x7, ?_⟩
    refine LEN.mk 0 rfl ?_
    intro w8 x8
    refine LOOP.rounds 1 ?_
    refine CLt.no (by omega) ?_
    exact ⟨rfl, (), ⟨rfl, rfl, rfl, rfl, rfl, trivial⟩, T1, (Q5.ext (y6.trans' x7)).ext x8⟩
  rintro ⟨⟩ w2 ⟨T2, Q2⟩ j2
  generalize hL0 : ({ L with ea := none, ec := 0 } : ML) = L0 at *
  have hpb0 : L0.pb[p]? = some pb := by rw [← hL0]; exact hpb
  have J := I.tick (d := min (max d 0) 1048576) hx (by omega)
  have hτx : (tickS σ p x (min (max d 0) 1048576)).ps[p]? = some { x with all := x.all + 1 } := by simp [tickS, setP, hp]
  have hτ : coreM (tickS σ p x (min (max d 0) 1048576)) = coreM σ ∧ (tickS σ p x (min (max d 0) 1048576)).commits = σ.commits ∧ (tickS σ p x (min (max d 0) 1048576)).fs = σ.fs ∧ (tickS σ p x (min (max d 0) 1048576)).steps = σ.steps + 1 ∧ (tickS σ p x (min (max d 0) 1048576)).ps.length = σ.ps.length ∧ row (tickS σ p x (min (max d 0) 1048576)) p = row σ p ∧ (tickS σ p x (min (max d 0) 1048576)).common = σ.common := ⟨rfl, rfl, rfl, rfl, by simp [tickS, setP], rfl, rfl⟩
  generalize tickS σ p x (min (max d 0) 1048576) = τ at *
  generalize hx1 : ({ x with all := x.all + 1 } : Prc) = x1 at *
  obtain ⟨hτ1, hτ2, hτ3, hτ4, hτ5, hτ6, hτ7⟩ := hτ
  have hxx : x1.row = x.row ∧ x1.g = x.g := by rw [← hx1]; exact ⟨rfl, rfl⟩
  have hbx := J.ps x1 (List.mem_of_getElem? hτx)
  have hpl : p < τ.ps.length := by omega
  refine SEM.cut (X := Unit) 1 (fun t => [(0, pt b), (3, pt b3), (4, pt b4), (5, i64 p), (6, pt pb)])
    (fun t w' => ∃ S', Rn w S w' S' (mP b τ L0 ++ [cAt b3 (B (chC p v pre d) 43), cAt b4 (B [i64 0, i64 0, i64 0] 58)])) rfl ?_ ?_
  · have off : ∀ {w3 : World}, Ext w2 w3 → Calls PP 105 #[pt b, i64 p] w3 (Pure w3 (.tuple #[.agg #[i64 0, i64 0, i64 0], .bool false])) := fun {w3} x3 =>
      collect_off (Q2.ext x3).bmq J.off rfl hτx (by omega) (by omega)
    refine RUN.ld (Q2.blk 17 rfl) rfl (show _ = some (.bool pre) from rfl) ?_
    cases pre
    · refine CALL.by (off (Ext.refl w2)) rfl ?_
      rintro e w3 ⟨rfl, x3⟩
      refine RUN.alloc rfl rfl (fun b9 w4 n4 => ?_)
      refine RUN.sta (vs := [i64 0, i64 0, i64 0]) n4.here rfl (by simp) (by simp [Value.oneCell']) (fun w5 u5 => ?_)
      have x5 : Ext w2 w5 := x3.trans' (n4.ext.trans u5.ch (fun y hy hb => by have := n4.blk; omega))
      exact ⟨rfl, (), ⟨rfl, rfl, rfl, rfl, rfl, trivial⟩, T2, Q2.ext x5⟩
    · refine RUN.ld (Q2.bprc hτx hpb0) rfl (show _ = some (i64 x1.g) from rfl) ?_
      by_cases hg : x1.g = -1
      · refine CEq.yes (hg) ?_
        refine CALL.by (off (Ext.refl w2)) rfl ?_
        rintro e w3 ⟨rfl, x3⟩
        refine RUN.alloc rfl rfl (fun b9 w4 n4 => ?_)
        refine RUN.sta (vs := [i64 0, i64 0, i64 0]) n4.here rfl (by simp) (by simp [Value.oneCell']) (fun w5 u5 => ?_)
        have x5 : Ext w2 w5 := x3.trans' (n4.ext.trans u5.ch (fun y hy hb => by have := n4.blk; omega))
        exact ⟨rfl, (), ⟨rfl, rfl, rfl, rfl, rfl, trivial⟩, T2, Q2.ext x5⟩
      · obtain ⟨g, hg1, hst, y, hy⟩ := J.g2 hτx hg
        obtain ⟨Sm, hM, cl⟩ := Q2.bm
        refine CEq.no (hg) ?_
        refine CALL.by (away_in ⟨L0, hM⟩ rfl hτx hg1 hst (by rw [J.rl]; exact hpl) (by have := common_len J; omega)) rfl ?_
        rintro e w3 ⟨rfl, ⟨L3, m3⟩, c3⟩
        obtain ⟨S3, Q3⟩ := cl c3 m3
        refine RUN.sta (vs := [i64 2, i64 g, i64 0]) (Q3.blk 18 rfl) rfl (by simp) (by simp [Value.oneCell']) (fun w4 u4 => ?_)
        have Q4 := Q3.st 18 rfl u4
        refine RUN.lda (vs := [i64 2, i64 g, i64 0]) u4.here rfl (Nat.le_of_ble_eq_true rfl) rfl ?_
        refine ⟨rfl, hR _ _ ⟨_, ⟨(J.away hτx hg1 hst).weak (by omega) (by omega), ?_, ?_, ?_, .inl ⟨2, g, by decide, rfl, ?_, ?_, .inr (.inl rfl)⟩⟩, fin_store Q4, Q4.cc⟩⟩
        · exact hτ3
        · show τ.steps ≤ _; omega
        · simpa [awayF, setP, readyF, mvF] using hτ5
        · rw [coreM_away hst]; exact hτ1
        · exact hτ2
  rintro ⟨⟩ w3 ⟨T3, Q3⟩ j3
  refine SEM.cut (X := Unit) 0 (fun t => [(0, pt b), (3, pt b3), (4, pt b4), (5, i64 p), (6, pt pb)])
    (fun t w' => ∃ σ3 S', Rn w S w' S' (mP b σ3 L0 ++ [cAt b3 (B (chC p v pre d) 43), cAt b4 (B [i64 0, i64 0, i64 0] 58)]) ∧ InvK 0 1 σ3 ∧ coreM σ3 = coreM σ ∧ σ3.commits = σ.commits ∧ σ3.fs = σ.fs ∧ σ3.steps = σ.steps + 1 ∧ σ3.ps.length = σ.ps.length ∧ ∃ x', σ3.ps[p]? = some x' ∧ x'.row ≤ x.row ∧ (x'.g = -1 → x.g = -1 ∧ row σ p = [] ∧ σ.common = [])) rfl ?_ ?_
  · refine RUN.ld (Q3.bprc hτx hpb0) rfl (show _ = some (i64 x1.g) from rfl) ?_
    by_cases hg : x1.g = -1
    · obtain ⟨Sm, hM, cl⟩ := Q3.bm
      refine CEq.yes (hg) ?_
      refine RUN.ld (Q3.blk 17 rfl) rfl (show _ = some (i64 v) from rfl) ?_
      refine CALL.by (take_in hM rfl hτx (by rw [J.rl]; exact hpl) (by rw [J.rl]; exact J.pl.2) (by have := common_len J; omega) (by omega) (by omega) (fun g rows' common' hp => J.pick hp)) rfl ?_
      rintro e w4 ⟨rfl, ⟨σ4, ht, m4⟩, c4⟩
      obtain ⟨S4, Q4⟩ := cl c4 m4
      obtain ⟨a1, a2, a3, a4, a5, a6, x', b1, b2, b3⟩ := J.take (by decide) hτx hg ht
      exact ⟨rfl, (), ⟨rfl, rfl, rfl, rfl, rfl, trivial⟩, σ4, S4, Q4, a1, a2.trans hτ1, a3.trans hτ2, a4.trans hτ3, a5.trans hτ4, a6.trans hτ5, x', b1, by omega, fun hh => ⟨by rw [← hxx.2]; exact hg, by rw [← hτ6]; exact (b3 hh).1, by rw [← hτ7]; exact (b3 hh).2⟩⟩
    · refine CEq.no (hg) ?_
      exact ⟨rfl, (), ⟨rfl, rfl, rfl, rfl, rfl, trivial⟩, τ, T3, Q3, J.weak (by decide) (Int.le_refl _), hτ1, hτ2, hτ3, hτ4, hτ5, x1, hτx, by omega, fun hh => absurd hh hg⟩
  rintro ⟨⟩ w4 ⟨σ3, T4, Q4, J3, c1, c2, c3, c4, c5, x3, hx3, c6, c7⟩ j4
  refine SEM.of ?_
  have hp3 : p < σ3.ps.length := by omega
  have hb3 := J3.ps x3 (List.mem_of_getElem? hx3)
  refine RUN.ld (Q4.bprc hx3 hpb0) rfl (show _ = some (i64 x3.g) from rfl) ?_
  by_cases hg : x3.g = -1
  · refine CEq.yes (hg) ?_
    refine CALL.by (work_off Q4.bmq J3.off.ph) rfl ?_
    rintro e w5 ⟨rfl, x5⟩
    refine CALL.by (event_in w5) rfl ?_
    rintro e w6 ⟨rfl, x6⟩
    have Q6 := (Q4.ext x5).ext x6
    refine RUN.sta (vs := [i64 0, i64 (-1), i64 0]) (Q6.blk 18 rfl) rfl (by simp) (by simp [Value.oneCell']) (fun w7 u7 => ?_)
    have Q7 := Q6.st 18 rfl u7
    refine RUN.lda (vs := [i64 0, i64 (-1), i64 0]) u7.here rfl (Nat.le_of_ble_eq_true rfl) rfl ?_
    exact ⟨rfl, hR _ _ ⟨σ3, ⟨J3.weak (Int.le_refl _) (by decide), c3, by omega, c5, .inl ⟨0, -1, by decide, rfl, c1, c2, .inr (.inr ⟨x, hx, .inr (c7 hg)⟩)⟩⟩, fin_store Q7, Q7.cc⟩⟩
  · obtain ⟨g, hg1, hst, y, hy⟩ := J3.g2 hx3 hg
    have hgy := J3.gs y (List.mem_of_getElem? hy)
    have hl : σ3.fs[y.f]? = some σ3.fs[y.f] := List.getElem?_eq_getElem hgy.2.1
    generalize σ3.fs[y.f] = l at hl
    have R3 : Run1 σ3 p g x3 y := ⟨hx3, hg1, hst, hy⟩
    have hie := inst_eq (pc := y.pc) hl
    have hpi : plainI σ3.fs.length ((l[y.pc]?).getD ⟨0, 0, 0, 0⟩) := by
      have h1 : plainI σ.fs.length (instAt σ.fs y.f y.pc) := hpl0 (cg1 2 y) (List.mem_of_getElem? (by rw [← c1]; exact R3.z)) rfl
      rw [← c3, hie] at h1
      exact h1
    generalize hi : (l[y.pc]?).getD ⟨0, 0, 0, 0⟩ = i at hpi hie
    obtain ⟨τ4, cm, to, ex⟩ := ExOk.any (b := b) J3 (by omega) R3 hpi
    have hop : i.op ≠ 1 := by rcases hpi with h | h | h | h | h | h | h | h | h | h | h <;> omega
    obtain ⟨Sm, hM, cl⟩ := Q4.bm
    refine CEq.no (hg) ?_
    refine CALL.by (run_in ⟨L0, hM⟩ rfl hx3 hg1 hy hgy.1 (by omega) (by omega) hst (by rw [J3.rl]; exact hp3) (by have := common_len J3; omega) (by have := row_len J3 (p := p) (by rw [J3.rl]; exact hp3); omega) hl hi.symm hop (fun _ => ex.clo) ex.hx ex.ht ex.rl ex.cl ex.cml) rfl ?_
    rintro e w5 ⟨⟨hA, rfl, ⟨L5, m5⟩⟩ | ⟨hA, rfl, ⟨L5, m5⟩⟩, cc5⟩
    · obtain ⟨S5, Q5⟩ := cl cc5 m5
      refine RUN.sta (vs := [i64 2, i64 g, i64 0]) (Q5.blk 18 rfl) rfl (by simp) (by simp [Value.oneCell']) (fun w6 u6 => ?_)
      have Q6 := Q5.st 18 rfl u6
      refine RUN.lda (vs := [i64 2, i64 g, i64 0]) u6.here rfl (Nat.le_of_ble_eq_true rfl) rfl ?_
      refine ⟨rfl, hR _ _ ⟨_, ⟨(J3.away hx3 hg1 hst).weak (by omega) (by omega), ?_, ?_, ?_, .inl ⟨2, g, by decide, rfl, ?_, ?_, .inr (.inr ⟨x, hx, .inl (by rcases hA with h | h <;> omega)⟩)⟩⟩, fin_store Q6, Q6.cc⟩⟩
      · exact c3
      · show σ3.steps ≤ _; omega
      · simpa [awayF, setP, readyF, mvF] using c5
      · rw [coreM_away hst]; exact c1
      · exact c2
    · obtain ⟨S5, Q5⟩ := cl cc5 m5
      refine RUN.sta (vs := [i64 1, i64 g, i64 0]) (Q5.blk 18 rfl) rfl (by simp) (by simp [Value.oneCell']) (fun w6 u6 => ?_)
      have Q6 := Q5.st 18 rfl u6
      refine RUN.lda (vs := [i64 1, i64 g, i64 0]) u6.here rfl (Nat.le_of_ble_eq_true rfl) rfl ?_
      refine ⟨rfl, hR _ _ ⟨_, ⟨ex.inv, ex.fs.trans c3, by rw [ex.steps]; omega, ex.psl.trans c5, .inr ⟨g, cg1 2 y, cm, rfl, h0, ?_, rfl, ?_, ?_⟩⟩, fin_store Q6, Q6.cc⟩⟩
      · rw [← c1]; exact R3.z
      · rw [← c1, ← c3]
        have := ex.core
        rw [← hie] at this
        exact this
      · show (toF τ4 p g (x1F x3) to).commits ++ [cm] = _
        rw [toF_commits, ex.cms, c2]
end Go.E
end
