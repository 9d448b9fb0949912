/- One step of both. -/
import Derived.Test.YtnbekdcepnfpaaaGreatDoorG36
set_option linter.unusedVariables false
set_option linter.unusedSimpArgs false
set_option maxRecDepth 10000
noncomputable section
namespace Go.E
open Go Go.Proofs

/-- Some of the parts by themselves; blocks that are other parts are not theirs. -/
theorem Rn.splitN {w0 w : World} {S0 S : Nat → Prop} {Ps Bs : List Cmp} (Q : Rn w0 S0 w S (Ps ++ Bs)) :
    ∃ Sm : Nat → Prop, (∀ y, Sm y → S y) ∧ (∀ (j x : Nat) (o : Obj), Bs[j]? = some (cAt x o) → ¬ Sm x) ∧ Side w Sm Ps ∧ ∀ {w' : World} {Qs : List Cmp}, Qs.length = Ps.length → Ch Sm w w' → Side w' (Nw w Sm) Qs → ∃ S', Rn w0 S0 w' S' (Qs ++ Bs) := by
  obtain ⟨col, hs⟩ := id Q.sd
  -- the parts in two
  have Q2 : Rn w0 S0 w S (cSide Ps :: Bs) := by
    refine ⟨Q.cc, Q.oo, Q.bd, fun y => if col y < Ps.length then 0 else col y - Ps.length + 1, fun i c hi => ?_⟩
    rcases i with _ | i
    · simp only [List.getElem?_cons_zero, Option.some.injEq] at hi
      subst hi
      refine ⟨col, fun i c hi => ?_⟩
      have hil := (List.getElem?_eq_some_iff.1 hi).1
      have := hs i c (by rw [List.getElem?_append_left hil]; exact hi)
      exact c.fm.mono this fun y hy hh => ⟨⟨hh.1, by show (if col y < Ps.length then 0 else col y - Ps.length + 1) = 0; rw [hh.2]; exact if_pos hil⟩, hh.2⟩
    · have hi' : Bs[i]? = some c := by simpa using hi
      have := hs (Ps.length + i) c (by rw [List.getElem?_append_right (by omega), Nat.add_sub_cancel_left]; exact hi')
      exact c.fm.mono this fun y hy hh => ⟨hh.1, by
        show (if col y < Ps.length then 0 else col y - Ps.length + 1) = i + 1
        rw [hh.2, if_neg (by omega)]; omega⟩
  obtain ⟨Sm, sm, hn, hP, cl⟩ := Q2.stepN 0 rfl
  refine ⟨Sm, sm, fun j x o hj hh => hn (j + 1) x o (by simpa using hj) (by omega) hh, hP, fun {w' Qs} hl hc hq => ?_⟩
  obtain ⟨S', Q3⟩ := cl (cSide Qs) hc (Nw.own _ _) hq
  obtain ⟨col2, hs2⟩ := Q3.sd
  obtain ⟨col3, hs3⟩ : Side w' (fun y => S' y ∧ col2 y = 0) Qs := hs2 0 _ rfl
  refine ⟨S', Q3.cc, Q3.oo, Q3.bd, fun y => if col2 y = 0 then (if col3 y < Qs.length then col3 y else Qs.length + Bs.length) else Qs.length + (col2 y - 1), fun i c hi => ?_⟩
  by_cases hil : i < Qs.length
  · rw [List.getElem?_append_left hil] at hi
    refine c.fm.mono (hs3 i c hi) fun y hy hh => ⟨hh.1.1, ?_⟩
    show (if col2 y = 0 then (if col3 y < Qs.length then col3 y else Qs.length + Bs.length) else Qs.length + (col2 y - 1)) = i
    rw [if_pos hh.1.2, hh.2, if_pos hil]
  · rw [List.getElem?_append_right (by omega)] at hi
    refine c.fm.mono (hs2 (i - Qs.length + 1) c (by simpa using hi)) fun y hy hh => ⟨hh.1, ?_⟩
    show (if col2 y = 0 then (if col3 y < Qs.length then col3 y else Qs.length + Bs.length) else Qs.length + (col2 y - 1)) = i
    rw [hh.2, if_neg (by omega)]; omega
theorem Side.neAt {w : World} {S : Nat → Prop} {Ps : List Cmp} {i j x y : Nat} {o o' : Obj} (h : Side w S Ps) (hi : Ps[i]? = some (cAt x o)) (hj : Ps[j]? = some (cAt y o')) (hij : i ≠ j) : x ≠ y := by
  obtain ⟨col, hs⟩ := h
  rintro rfl
  exact hij ((hs i _ hi).1.2.symm.trans (hs j _ hj).1.2)
/-- A machine of a law stands well. -/
structure WOk (σ : MS) (x : XS) (V : WS) : Prop where
  inv : Inv σ
  sim : SimX x σ
  keep : V.keep = false
  addr : V.addr = [0]
  ps : V.ps = σ.ps.length
def plainN (σ : MS) : Prop := ∀ z ∈ (coreM σ).gs, z.st = 1 → plainI σ.fs.length (instAt σ.fs z.f z.pc)
/-- What a step of both comes to. -/
def StepW (σ σ' : MS) : Prop := σ'.fs = σ.fs ∧ σ'.steps ≤ σ.steps + 1 ∧ σ'.ps.length = σ.ps.length ∧ ((coreM σ' = coreM σ ∧ σ'.commits = σ.commits) ∨ CStep σ.fs (coreM σ, σ.commits) (coreM σ', σ'.commits))
section
variable {w : World} {S : Nat → Prop} {wb mb xb ac : Nat} {aa : Option Addr} {σ : MS} {x : XS} {V : WS}
def evC (k g : Int) : List Value := [i64 k, i64 g, i64 0]
theorem wdo_in {p : Nat} {pi v : Int} (h : Side w S (wP wb mb xb aa ac σ x V)) (O : WOk σ x V) (hs : σ.steps ≤ 2 ^ 22) (hpi : pi = p) (hp : p < σ.ps.length) (hpl : plainN σ) :
    Calls PP 31 #[pt wb, .agg (chC pi v false 0).toArray] w (fun e w' => ∃ (k g : Int) (σ' : MS) (x' : XS) (V' : WS), e = .returned (.tuple #[.agg #[i64 k, i64 g, i64 0], .bool true]) ∧ Side w' (Nw w S) (wP wb mb xb aa ac σ' x' V') ∧ Ch S w w' ∧ WOk σ' x' V' ∧ V'.ps = V.ps ∧ StepW σ σ') := by
  subst hpi
  obtain ⟨I, sim, hk, hadd, hps⟩ := O
  obtain ⟨S0, s0, Q0⟩ := Rn.start h
  have hcm0 := I.cm
  have hpll := I.pl
  refine calls_sem (fn := Tryz.f31) (args := [_, _]) Tryz.func31 rfl (by simp) (fun R hR => ?_)
  refine SEM.cut (X := Nat × Nat) 1 (fun t => [(0, pt wb), (3, pt t.1), (4, pt t.2), (6, i64 σ.commits.length), (7, .bool (decide (statusF σ = 0)))])
    (fun t w' => ∃ S', Rn w S w' S' (wP wb mb xb aa ac σ x V ++ [cAt t.1 (B (chC p v false 0) 43), cAt t.2 (B [i64 0, i64 0, i64 0] 58)])) rfl ?_ ?_
  · refine RUN.box (fun b3 w1 n1 => ?_)
    refine RUN.alloc rfl rfl (fun b4 w2 n2 => ?_)
    obtain ⟨S1, Q1, _⟩ := Q0.add1 n1
    obtain ⟨S2, Q2, _⟩ := Q1.add1 n2
    replace Q2 : Rn w S w2 S2 (wP wb mb xb aa ac σ x V ++ [cAt b3 (B (chC p v false 0) 43), cAt b4 (B [i64 0, i64 0, i64 0] 58)]) := Q2
    have hM : MAt w2 S2 mb σ := Q2.get 1 rfl
    refine DRAW.q 12 (qs 12 0) (by kernel_rfl) (fun _ _ _ _ _ h => h) ?_
    refine RUNQ.ld (Q2.blk 0 rfl) rfl (rfl) ?_
    refine CALLQ.mk _ rfl (fun w' hs => mcommits_in (MAt.fm.ext hM hs)) ?_
    refine RUNQ.ld (Q2.blk 0 rfl) rfl (rfl) ?_
    refine CALLQ.mk _ rfl (fun w' hs => status_in (MAt.fm.ext hM hs)) ?_
    by_cases h0 : statusF σ = 0
    · refine CEq.yes (h0) ?_
      intro w3 x3
      exact ⟨rfl, (b3, b4), ⟨rfl, rfl, rfl, rfl, congrArg Value.bool (decide_eq_true h0).symm, trivial⟩, S2, Q2.ext x3⟩
    · refine CEq.no (h0) ?_
      intro w3 x3
      exact ⟨rfl, (b3, b4), ⟨rfl, rfl, rfl, rfl, congrArg Value.bool (decide_eq_false h0).symm, trivial⟩, S2, Q2.ext x3⟩
  rintro ⟨b3, b4⟩ w1 ⟨S1, Q1⟩ j1
  simp only at Q1
  -- what is remembered
  refine SEM.cut (X := WS) 1 (fun t => [(0, pt wb), (3, pt b3), (4, pt b4), (6, i64 σ.commits.length), (7, .bool (decide (statusF σ = 0)))])
    (fun t w' => t.keep = V.keep ∧ t.addr = V.addr ∧ t.ps = V.ps ∧ ∃ S', Rn w S w' S' (wP wb mb xb aa ac σ x t ++ [cAt b3 (B (chC p v false 0) 43), cAt b4 (B [i64 0, i64 0, i64 0] 58)])) rfl ?_ ?_
  · have hph := I.off.ph
    obtain ⟨Si, si, hn, hP, cl⟩ := Q1.stepN 1 rfl
    refine DRAW.of 16 [(0, .q), (1, .q), (2, .q), (3, .q), (4, .q), (5, .q), (6, .q), (8, .q), (9, .q), (7, .q), (10, .q), (11, .q), (12, .s), (13, .q), (14, .q), (15, .s)]
      (fun w' => w1.heap.size ≤ w'.heap.size ∧ At w' b3 (B (chC p v false 0) 43) ∧ (∃ c : WS, At w' wb (B (wC mb xb aa ac c) 45)) ∧ MAt w' Si mb σ) (by kernel_rfl) (fun _ _ _ _ _ h => h)
      (fun w w' h h' => ⟨Nat.le_trans h.1 h'.size, h'.at h.2.1, ⟨h.2.2.1.choose, h'.at h.2.2.1.choose_spec⟩, MAt.fm.ext h.2.2.2 h'⟩) ⟨Nat.le_refl _, Q1.blk 4 rfl, ⟨V, Q1.blk 0 rfl⟩, hP⟩ ?_
    refine RUNQ.mk (pt mb) (fun w' hs => load_run (cs := wC mb xb aa ac hs.2.2.1.choose) rfl hs.2.2.1.choose_spec rfl) ?_
    refine RUNQ.mk (.agg (chC p v false 0).toArray) (fun w' hs => loadA_run rfl rfl hs.2.1 (Nat.le_of_ble_eq_true rfl) rfl) ?_
    refine CALLQ.mk (i64 σ.ph.phase) rfl (fun w' hs => mphase_in hs.2.2.2) ?_
    intro v1 y1 t1
    refine RUN.sti (y1.at (Q1.blk 0 rfl)) rfl (Nat.le_of_ble_eq_true rfl) (fun v2 u2 => ?_)
    have P2 := (Q1.ext y1).st 0 rfl u2
    have hwb : ¬ Si wb := fun hh => hn 0 wb _ rfl (by decide) hh
    have hb3 : ¬ Si b3 := fun hh => hn 4 b3 _ rfl (by decide) hh
    have hM2 : MAt v2 Si mb σ := MAt.fm.ch (MAt.fm.ext hP y1) u2.ch (fun y _ hs hh => hwb (hh ▸ hs))
    replace P2 : Rn w S v2 S1 (wP wb mb xb aa ac σ x { V with ph := σ.ph.phase } ++ [cAt b3 (B (chC p v false 0) 43), cAt b4 (B [i64 0, i64 0, i64 0] 58)]) := P2
    refine ⟨⟨Nat.le_trans y1.size (by rw [u2.size]; exact Nat.le_refl _), P2.blk 4 rfl, ⟨_, P2.blk 0 rfl⟩, hM2⟩, ?_⟩
    intro v3 y3 t3
    refine RUN.sta (vs := chC p v false 0) ((P2.ext y3).blk 0 rfl) rfl (Nat.le_of_ble_eq_true rfl) (by simp [chC, Value.oneCell']) (fun v4 u4 => ?_)
    have P4 := (P2.ext y3).st 0 rfl u4
    have hM4 : MAt v4 Si mb σ := MAt.fm.ch (MAt.fm.ext hM2 y3) u4.ch (fun y _ hs hh => hwb (hh ▸ hs))
    replace P4 : Rn w S v4 S1 (wP wb mb xb aa ac σ x { V with ph := σ.ph.phase, cp := p, cv := v, cpre := false, ctick := 0 } ++ [cAt b3 (B (chC p v false 0) 43), cAt b4 (B [i64 0, i64 0, i64 0] 58)]) := P4
    refine ⟨⟨Nat.le_trans t3.1 (by rw [u4.size]; exact Nat.le_refl _), P4.blk 4 rfl, ⟨_, P4.blk 0 rfl⟩, hM4⟩, ?_⟩
    intro v5 y5
    refine RUN.sta (vs := view0.l) ((P4.ext y5).blk 0 rfl) rfl (Nat.le_of_ble_eq_true rfl) (by simp [view0, VW.l, Value.oneCell']) (fun v6 u6 => ?_)
    have P6 := (P4.ext y5).st 0 rfl u6
    replace P6 : Rn w S v6 S1 (wP wb mb xb aa ac σ x { V with ph := σ.ph.phase, cp := p, cv := v, cpre := false, ctick := 0, was := view0 } ++ [cAt b3 (B (chC p v false 0) 43), cAt b4 (B [i64 0, i64 0, i64 0] 58)]) := P6
    refine RUN.ld (v := .bool false) (P6.blk 0 rfl) rfl (by show some (Value.bool V.keep) = _; rw [hk]) ?_
    refine RUN.ld (P6.blk 0 rfl) rfl (show _ = some (i64 σ.ph.phase) from rfl) ?_
    refine CEq.no (by omega) ?_
    exact ⟨rfl, { V with ph := σ.ph.phase, cp := p, cv := v, cpre := false, ctick := 0, was := view0 }, ⟨rfl, rfl, rfl, rfl, rfl, trivial⟩, rfl, rfl, rfl, S1, P6⟩
  rintro V1 w2 ⟨hk1, ha1, hp1, S2, Q2⟩ j2
  -- the machine's step
  refine SEM.cut (X := Nat × MS × Int × Int) 0 (fun t => [(0, pt wb), (3, pt b3), (4, pt b4), (6, i64 σ.commits.length), (7, .bool (decide (statusF σ = 0))), (8, pt t.1)])
    (fun t w' => StepS p false σ t.2.1 (.returned (evV t.2.2.1 t.2.2.2)) ∧ ∃ S', Rn w S w' S' (wP wb mb xb aa ac t.2.1 x V1 ++ [cAt b3 (B (chC p v false 0) 43), cAt b4 (B [i64 0, i64 0, i64 0] 58), cAt t.1 (B (evC t.2.2.1 t.2.2.2) 58)])) rfl ?_ ?_
  · have evx : ∀ {σ' : MS} {e : Ending}, StepS p false σ σ' e → ∃ k g : Int, e = .returned (evV k g) := by
      intro σ' e ss
      rcases ss.out with ⟨k, g, _, rfl, _⟩ | ⟨g, z, cm, rfl, _⟩
      · exact ⟨k, g, rfl⟩
      · exact ⟨1, g, rfl⟩
    refine DRAW.cut (X := Nat × MS × Int × Int) (fun t => [(0, pt wb), (3, pt b3), (4, pt b4), (6, i64 σ.commits.length), (7, .bool (decide (statusF σ = 0))), (8, pt t.1)])
      (fun t w' => StepS p false σ t.2.1 (.returned (evV t.2.2.1 t.2.2.2)) ∧ ∃ S', Rn w S w' S' (wP wb mb xb aa ac t.2.1 x V1 ++ [cAt b3 (B (chC p v false 0) 43), cAt b4 (B [i64 0, i64 0, i64 0] 58), cAt t.1 (B (evC t.2.2.1 t.2.2.2) 58)])) ?_ ?_
    · refine DRAW.tk 7 (.q 0 (.q 1 (.q 2 (.q 3 (.q 4 (.b 5 6 (.s 6 .nil) (.s 5 .nil))))))) [wb, b3] (by kernel_rfl) (fun _ _ _ _ _ h => absurd h.1 (by simp)) ?_
      refine RUNQ.kld (Q2.blk 0 rfl) (by simp) rfl (rfl) ?_
      refine RUNQ.klda (vs := chC p v false 0) (Q2.blk 4 rfl) (by simp) rfl (Nat.le_of_ble_eq_true rfl) rfl ?_
      refine ⟨?_, ?_⟩
      · intro v1 y1 t1
        obtain ⟨Si, si, hn, hP, cl⟩ := (Q2.ext y1).stepN 1 rfl
        refine CALL.by (step_in (p := p) hP I (by omega) rfl hp hpl) rfl ?_
        rintro e v2 ⟨σ', ss, m2, c2⟩
        obtain ⟨k, g, rfl⟩ := evx ss
        obtain ⟨S3, Q3⟩ := cl (cMa mb σ') c2 (Nw.own _ _) m2
        refine ⟨Keep.ch t1 c2 (fun y hy _ hh => ?_), ?_⟩
        · simp only [List.mem_cons, List.not_mem_nil, or_false] at hy
          rcases hy with rfl | rfl
          · exact hn 0 _ _ rfl (by decide) hh
          · exact hn 4 _ _ rfl (by decide) hh
        intro v3 y3 t3
        refine RUN.alloc rfl rfl (fun b8 v4 n4 => ?_)
        refine ⟨Keep.ext _ _ _ _ t3 n4.ext, ?_⟩
        obtain ⟨S4, Q4, _⟩ := (Q3.ext y3).add1 n4
        intro v5 y5
        refine RUN.sta (vs := evC k g) (y5.at n4.here) rfl (by simp [evC]) (by simp [evC, Value.oneCell']) (fun v6 u6 => ?_)
        exact ⟨rfl, rfl, (b8, σ', k, g), ⟨rfl, rfl, rfl, rfl, rfl, rfl, trivial⟩, ss, S4, (Q4.ext y5).st 6 rfl u6⟩
      · intro v1 y1 t1
        refine RUN.alloc rfl rfl (fun b8 v2 n2 => ?_)
        refine ⟨Keep.ext _ _ _ _ t1 n2.ext, ?_⟩
        obtain ⟨S3, Q3, _⟩ := (Q2.ext y1).add1 n2
        intro v3 y3 t3
        obtain ⟨Si, si, hn, hP, cl⟩ := (Q3.ext y3).stepN 1 rfl
        refine CALL.by (step_in (p := p) hP I (by omega) rfl hp hpl) rfl ?_
        rintro e v4 ⟨σ', ss, m4, c4⟩
        obtain ⟨k, g, rfl⟩ := evx ss
        obtain ⟨S4, Q4⟩ := cl (cMa mb σ') c4 (Nw.own _ _) m4
        refine ⟨Keep.ch t3 c4 (fun y hy _ hh => ?_), ?_⟩
        · simp only [List.mem_cons, List.not_mem_nil, or_false] at hy
          rcases hy with rfl | rfl
          · exact hn 0 _ _ rfl (by decide) hh
          · exact hn 4 _ _ rfl (by decide) hh
        intro v5 y5
        refine RUN.sta (vs := evC k g) ((Q4.ext y5).blk 6 rfl) rfl (by simp [evC]) (by simp [evC, Value.oneCell']) (fun v6 u6 => ?_)
        exact ⟨rfl, rfl, (b8, σ', k, g), ⟨rfl, rfl, rfl, rfl, rfl, rfl, trivial⟩, ss, S4, (Q4.ext y5).st 6 rfl u6⟩
    rintro ⟨b8, σ', k, g⟩ w3 hP j3
    exact ⟨rfl, (b8, σ', k, g), ⟨rfl, rfl, rfl, rfl, rfl, rfl, trivial⟩, hP⟩
  rintro ⟨b8, σ', k, g⟩ w3 ⟨ss, S3, Q3⟩ j3
  simp only at ss Q3
  -- time
  refine SEM.cut (X := XS) 0 (fun t => [(0, pt wb), (3, pt b3), (4, pt b4), (6, i64 σ.commits.length), (8, pt b8)])
    (fun t w' => t.fs = x.fs ∧ coreZ t = coreZ x ∧ t.objs = [] ∧ t.tim = [] ∧ t.clock = 0 ∧ ∃ S', Rn w S w' S' (wP wb mb xb aa ac σ' t V1 ++ [cAt b3 (B (chC p v false 0) 43), cAt b4 (B [i64 0, i64 0, i64 0] 58), cAt b8 (B (evC k g) 58)])) rfl ?_ ?_
  · by_cases h0 : statusF σ = 0
    · rw [decide_eq_true h0]
      refine DRAW.q 14 (qs 14 0) (by kernel_rfl) (fun _ _ _ _ _ h => h) ?_
      refine RUNQ.ld (Q3.blk 4 rfl) rfl (show _ = some (i64 p) from rfl) ?_
      refine CLt.no ((by omega)) ?_
      refine RUNQ.ld (Q3.blk 4 rfl) rfl (show _ = some (i64 p) from rfl) ?_
      refine RUNQ.ld (Q3.blk 0 rfl) rfl (show _ = some (i64 V1.ps) from rfl) ?_
      intro w4 x4
      refine CLt.yes (show ((p : Nat) : Int) < V1.ps by rw [hp1, hps]; omega) ?_
      have Q4 := Q3.ext x4
      refine DRAW.q 8 (qs 8 0) (by kernel_rfl) (fun _ _ _ _ _ h => h) ?_
      refine RUNQ.ld (Q4.blk 0 rfl) rfl (rfl) ?_
      refine RUNQ.ld (Q4.blk 4 rfl) rfl (show _ = some (i64 0) from rfl) ?_
      refine RUNQ.min2 (fun a1 h1 => ?_)
      refine RUNQ.max2 (fun a2 h2 => ?_)
      intro w5 x5
      have Q5 := Q4.ext x5
      obtain ⟨Si, si, hP, cl⟩ := Q5.step 2 rfl
      refine CALL.by (xtick_none hP sim.tm (by rw [sim.clk]; decide) (by omega)) rfl ?_
      rintro e w6 ⟨rfl, q6, c6⟩
      obtain ⟨S6, Q6, _, _⟩ := cl (cXa xb { x with clock := x.clock + a2 }) c6 (Nw.own _ _) q6
      exact ⟨rfl, { x with clock := x.clock + a2 }, ⟨rfl, rfl, rfl, rfl, rfl, trivial⟩, rfl, rfl, sim.ob, sim.tm, by show x.clock + a2 = 0; have := sim.clk; omega, S6, Q6⟩
    · rw [decide_eq_false h0]
      refine DRAW.q 14 (qs 14 0) (by kernel_rfl) (fun _ _ _ _ _ h => h) ?_
      intro w4 x4
      exact ⟨rfl, x, ⟨rfl, rfl, rfl, rfl, rfl, trivial⟩, rfl, rfl, sim.ob, sim.tm, sim.clk, S3, Q3.ext x4⟩
  rintro x1 w4 ⟨hxf, hxc, hxo, hxt, hxk, S4, Q4⟩ j4
  refine SEM.of ?_
  have hM : MAt w4 S4 mb σ' := Q4.get 1 rfl
  have hV1 : ∀ {σ'' : MS} {x'' : XS}, Inv σ'' → SimX x'' σ'' → σ''.ps.length = σ.ps.length → WOk σ'' x'' V1 := fun h1 h2 h3 => ⟨h1, h2, hk1.trans hk, ha1.trans hadd, by rw [hp1, hps, h3]⟩
  refine RUN.ld (Q4.blk 0 rfl) rfl (rfl) ?_
  refine CALL.by (mcommits_in hM) rfl ?_
  rintro e w5 ⟨rfl, x5⟩
  have Q5 := Q4.ext x5
  rcases ss.out with ⟨k', g', hk', he, hc, hm, hidle⟩ | ⟨g', z, cm, he, h0, hz, hz1, hcx, hm⟩
  · have ek : k = k' ∧ g = g' := by
      have : evV k g = evV k' g' := by injection he
      simp [evV] at this
      exact this
    obtain ⟨rfl, rfl⟩ := ek
    rw [hm]
    refine ART.sub (by omega) (fun a1 h1 => ?_)
    refine CLt.no ((by omega)) ?_
    refine CLt.no ((by omega)) ?_
    refine RUN.ld (Q5.blk 6 rfl) rfl (show _ = some (i64 k) from rfl) ?_
    refine CEq.no (hk') ?_
    refine CEq.no ((by omega)) ?_
    refine CEq.yes ((by omega)) ?_
    refine RUN.lda (vs := evC k g) (Q5.blk 6 rfl) rfl (Nat.le_of_ble_eq_true rfl) rfl ?_
    refine RUN.sta (vs := evC k g) (Q5.blk 5 rfl) rfl (by simp [evC]) (by simp [evC, Value.oneCell']) (fun w6 u6 => ?_)
    have Q6 := Q5.st 5 rfl u6
    refine RUN.lda (vs := evC k g) u6.here rfl (Nat.le_of_ble_eq_true rfl) rfl ?_
    refine ⟨rfl, hR _ _ ⟨k, g, σ', x1, V1, rfl, (Q6.perm (Qs := wP wb mb xb aa ac σ' x1 V1) [0, 1, 2, 3] rfl (by decide) (by rintro (_ | _ | _ | _ | i) c hc <;> first | exact hc | (simp [wP] at hc))).fin, Q6.cc, ?_, hp1, ss.fs, ss.steps, ss.psl, .inl ⟨hc, hm⟩⟩⟩
    exact hV1 ss.inv ⟨by rw [hxf, sim.fs, ss.fs], by rw [hxc, sim.core, hc], hxo, hxt, hxk⟩ ss.psl
  · have ek : k = 1 ∧ g = g' := by
      have : evV k g = evV 1 g' := by injection he
      simp [evV] at this
      exact this
    obtain ⟨rfl, rfl⟩ := ek
    have hlen : σ'.commits.length = σ.commits.length + 1 := by rw [hm]; simp
    refine ART.sub (by omega) (fun a1 h1 => ?_)
    refine CLt.no ((by omega)) ?_
    refine CLt.no ((by omega)) ?_
    refine RUN.ld (Q5.blk 6 rfl) rfl (show _ = some (i64 1) from rfl) ?_
    refine CEq.yes (rfl) ?_
    refine CEq.yes ((by omega)) ?_
    refine CEq.no ((by omega)) ?_
    refine RUN.ld (Q5.blk 0 rfl) rfl (rfl) ?_
    refine CALL.by (mcommit_in (j := σ.commits.length) (MAt.fm.ext hM x5) rfl (by rw [hm]; simp : σ'.commits[σ.commits.length]? = some cm)) rfl ?_
    rintro e w6 ⟨rfl, x6⟩
    refine RUN.alloc rfl rfl (fun b10 w7 n7 => ?_)
    obtain ⟨S7, Q7, _⟩ := (Q5.ext x6).add1 n7
    refine RUN.sta (vs := cmC cm) n7.here rfl (by simp [cmC]) (by simp [cmC, Value.oneCell']) (fun w8 u8 => ?_)
    have Q8 := Q7.st 7 rfl u8
    replace Q8 : Rn w S w8 S7 (wP wb mb xb aa ac σ' x1 V1 ++ [cAt b3 (B (chC p v false 0) 43), cAt b4 (B [i64 0, i64 0, i64 0] 58), cAt b8 (B (evC 1 g') 58), cAt b10 (B (cmC cm) 53)]) := Q8
    have hcm : cm = (cex (coreZ x1) g' z (instAt x1.fs z.f z.pc)).2 := by rw [hxc, hxf, sim.core, sim.fs, hcx]
    have hzx : x1.gs[g']? = some z := by
      have e : x1.gs = (coreM σ).gs := by rw [← sim.core, ← hxc]; rfl
      rw [e]; exact hz
    have hx1 : XOk x1 := (⟨hxf.trans sim.fs, hxc.trans sim.core, hxo, hxt, hxk⟩ : SimX x1 σ).ok I (by omega)
    have hpi : plainI x1.fs.length (instAt x1.fs z.f z.pc) := by rw [hxf, sim.fs]; exact hpl z (List.mem_of_getElem? hz) hz1
    have hcg : cm.g = g' := by rw [hcm, cex_cm]
    refine DRAW.k 15 [(0, .q), (1, .q), (2, .q), (3, .q), (4, .q), (5, .q), (6, .q), (7, .q), (8, .q), (9, .q), (10, .q), (11, .q), (12, .s), (13, .q), (14, .s)] [b8,b10] (by kernel_rfl) (fun _ _ _ _ _ h => h) ?_
    refine RUNQ.klda (vs := evC 1 g') (Q8.blk 6 rfl) (by simp) rfl (Nat.le_of_ble_eq_true rfl) rfl ?_
    refine RUNQ.kld (v := i64 cm.g) (Q8.blk 7 rfl) (by simp) rfl rfl ?_
    refine RUNQ.kld (v := i64 g') (Q8.blk 6 rfl) (by simp) rfl rfl ?_
    refine CEq.yes ((by rw [hcg])) ?_
    refine RUNQ.klda (vs := cmC cm) (Q8.blk 7 rfl) (by simp) rfl (Nat.le_of_ble_eq_true rfl) rfl ?_
    intro v1 y1 t1
    obtain ⟨Sm, sm, hn, hW, cl⟩ := (Q8.ext y1).splitN
    refine CALL.by (wfollow_in hW hx1 hzx hz1 hpi (ha1.trans hadd) hcm) rfl ?_
    rintro e v2 ⟨x2, rfl, q2, f1, f2, f3, f4, f5, c2⟩
    obtain ⟨S9, Q9⟩ := cl (Qs := wP wb mb xb aa ac σ' x2 V1) rfl c2 q2
    refine ⟨Keep.ch t1 c2 (fun y hy _ hh => ?_), ?_⟩
    · simp only [List.mem_cons, List.not_mem_nil, or_false] at hy
      rcases hy with rfl | rfl
      · exact hn 2 _ _ rfl hh
      · exact hn 3 _ _ rfl hh
    intro v3 y3 t3
    have P9 := Q9.ext y3
    refine RUN.sta (vs := evC 1 g') (P9.blk 5 rfl) rfl (by simp [evC]) (by simp [evC, Value.oneCell']) (fun v4 u4 => ?_)
    have Pa := P9.st 5 rfl u4
    refine ⟨Keep.ch t3 u4.ch (fun y hy _ hh => ?_), ?_⟩
    · simp only [List.mem_cons, List.not_mem_nil, or_false] at hy
      rcases hy with rfl | rfl
      · exact P9.sd.neAt (i := 6) (j := 5) rfl rfl (by decide) hh
      · exact P9.sd.neAt (i := 7) (j := 5) rfl rfl (by decide) hh
    intro v5 y5
    refine RUN.lda (vs := evC 1 g') ((Pa.ext y5).blk 5 rfl) rfl (Nat.le_of_ble_eq_true rfl) rfl ?_
    refine ⟨rfl, hR _ _ ⟨1, g', σ', x2, V1, rfl, ((Pa.ext y5).perm (Qs := wP wb mb xb aa ac σ' x2 V1) [0, 1, 2, 3] rfl (by decide) (by rintro (_ | _ | _ | _ | i) c hc <;> first | exact hc | (simp [wP] at hc))).fin, (Pa.ext y5).cc, ?_, hp1, ss.fs, ss.steps, ss.psl, .inr ⟨g', z, hz, hz1, ?_⟩⟩⟩
    · refine hV1 ss.inv ⟨by rw [f1, hxf, sim.fs, ss.fs], ?_, f2, f3, f4.trans hxk⟩ ss.psl
      rw [f5, hxc, hxf, sim.core, sim.fs, hcx]
    · rw [hcx, hm]
end
end Go.E
end
/- Rounds. -/
set_option linter.unusedVariables false
set_option linter.unusedSimpArgs false
set_option maxRecDepth 10000
noncomputable section
namespace Go.E
open Go Go.Proofs

section
variable {w : World} {S : Nat → Prop} {wb mb xb ac : Nat} {aa : Option Addr} {σ : MS} {x : XS} {V : WS}
theorem round_in {i : Int} (h : At w wb (B (wC mb xb aa ac V) 45)) (hp : 1 ≤ V.ps ∧ V.ps ≤ 64) (hi : 0 ≤ i ∧ i ≤ 2 ^ 40) : Calls PP 32 #[pt wb, i64 i] w (Pure w (.agg (chC (i % V.ps) ((i % V.ps + 1) % V.ps) false 0).toArray)) := by
  have h1 := Int.emod_nonneg i (by omega : V.ps ≠ 0)
  have h2 := Int.emod_lt_of_pos i (by omega : 0 < V.ps)
  refine calls_den (fn := Tryz.f32) (args := [_, _]) Tryz.func32 rfl (by simp) (fun R hR => ?_)
  refine RUN.alloc rfl rfl (fun b4 w1 n1 => ?_)
  refine RUN.ld (n1.at h) rfl (show _ = some (i64 V.ps) from rfl) ?_
  refine ART.rem (by omega) (by omega) (fun r1 g1 => ?_)
  refine ART.add (by omega) (fun r2 g2 => ?_)
  refine RUN.ld (n1.at h) rfl (show _ = some (i64 V.ps) from rfl) ?_
  refine ART.rem (by omega) (by omega) (fun r3 g3 => ?_)
  subst g1
  refine RUN.sta (vs := chC (i % V.ps) r3 false 0) n1.here rfl (by simp [chC]) (by simp [chC, Value.oneCell']) (fun w2 u2 => ?_)
  refine RUN.lda (vs := chC (i % V.ps) r3 false 0) u2.here rfl (Nat.le_of_ble_eq_true rfl) rfl ?_
  rw [g3, g2] at *
  exact ⟨rfl, hR _ _ ⟨rfl, n1.ext.trans u2.ch (fun y hy hb => by have := n1.blk; omega)⟩⟩
/-- What holds at each round of a law's run. -/
structure WRun (P : Core × List Cmt → Prop) (fs : List (List In)) (n : Nat) (σ : MS) (x : XS) (V : WS) : Prop where
  ok : WOk σ x V
  fs : σ.fs = fs
  pl : σ.ps.length = n
  p : P (coreM σ, σ.commits)
  stb : σ.steps ≤ 360000
theorem wrun_in {P : Core × List Cmt → Prop} {fs : List (List In)} {n : Nat} {rounds : Int} (h : Side w S (wP wb mb xb aa ac σ x V)) (J : WRun P fs n σ x V) (hn : n ≤ 6) (hr : 0 ≤ rounds ∧ rounds ≤ 60000) (hs : σ.steps ≤ 0)
    (hstep : ∀ s s', P s → CStep fs s s' → P s') (hplain : ∀ s, P s → ∀ z ∈ s.1.gs, z.st = 1 → plainI fs.length (instAt fs z.f z.pc)) :
    Calls PP 27 #[pt wb, i64 rounds] w (fun e w' => ∃ σ' x' V', e = .returned (.bool true) ∧ Side w' (Nw w S) (wP wb mb xb aa ac σ' x' V') ∧ Ch S w w' ∧ WRun P fs n σ' x' V' ∧ V'.ps = V.ps) := by
  obtain ⟨S0, s0, Q0⟩ := Rn.start h
  have hps : V.ps = n := by rw [J.ok.ps, J.pl]
  have hn1 := J.ok.inv.pl.1
  rw [J.pl] at hn1
  have hmul : 0 ≤ rounds * V.ps ∧ rounds * V.ps ≤ 360000 := by
    constructor
    · exact Int.mul_nonneg hr.1 (by omega)
    · have : rounds * V.ps ≤ 60000 * 6 := Int.mul_le_mul hr.2 (by omega) (by omega) (by omega)
      omega
  refine calls_den (fn := Tryz.f27) (args := [_, _]) Tryz.func27 rfl (by simp) (fun R hR => ?_)
  refine LOOP.inv (X := Nat) (fun i => [(0, pt wb), (1, i64 rounds), (5, i64 i)]) (fun i w' => (i : Int) ≤ rounds * V.ps ∧ ∃ σ' x' V' S', Rn w S w' S' (wP wb mb xb aa ac σ' x' V') ∧ WRun P fs n σ' x' V' ∧ V'.ps = V.ps ∧ σ'.steps ≤ i) (fun i => (rounds * V.ps).toNat - i) 0 ⟨rfl, rfl, rfl, trivial⟩
    ⟨by omega, σ, x, V, S0, Q0, J, rfl, by omega⟩ ?_
  rintro i w1 ⟨hi, σ1, x1, V1, S1, Q1, J1, hv1, hst1⟩ j1
  have hM : MAt w1 S1 mb σ1 := Q1.get 1 rfl
  have done : ∀ {w' : World}, Ext w1 w' → ∃ σ' x' V', (Ending.returned (.bool true) : Ending) = .returned (.bool true) ∧ Side w' (Nw w S) (wP wb mb xb aa ac σ' x' V') ∧ Ch S w w' ∧ WRun P fs n σ' x' V' ∧ V'.ps = V.ps := by
    intro w' xe
    exact ⟨σ1, x1, V1, rfl, (Q1.ext xe).fin, (Q1.ext xe).cc, J1, hv1⟩
  have hV : V1.ps = n := hv1.trans hps
  have hm1 : rounds * V1.ps = rounds * V.ps := by rw [hv1]
  refine RUN.ld (Q1.blk 0 rfl) rfl (show _ = some (i64 V1.ps) from rfl) ?_
  refine ART.mul (by omega) (fun m1 g1 => ?_)
  rw [hv1] at g1
  by_cases hlt : (i : Int) < rounds * V.ps
  · refine CLt.yes ((by omega)) ?_
    refine RUN.ld (Q1.blk 0 rfl) rfl (rfl) ?_
    refine CALL.by (status_in hM) rfl ?_
    rintro e w2 ⟨rfl, x2⟩
    have Q2 := Q1.ext x2
    by_cases h0 : statusF σ1 = 0
    · have hmod := Int.emod_nonneg (i : Int) (by omega : V1.ps ≠ 0)
      have hmod2 := Int.emod_lt_of_pos (i : Int) (by omega : 0 < V1.ps)
      obtain ⟨p, hp⟩ : ∃ p : Nat, (i : Int) % V1.ps = p := ⟨((i : Int) % V1.ps).toNat, by omega⟩
      refine CEq.yes (h0) ?_
      refine CALL.by (round_in (Q2.blk 0 rfl) (by omega) (by omega)) rfl ?_
      rintro e w3 ⟨rfl, x3⟩
      have Q3 := Q2.ext x3
      refine CALL.by (wdo_in (p := p) Q3.sd J1.ok (by omega) hp (by have := J1.pl; omega) (by rw [plainN, J1.fs]; exact hplain _ J1.p)) rfl ?_
      rintro e w4 ⟨k, g, σ2, x2', V2, rfl, q4, c4, O2, hv2, f1, f2, f3, f4⟩
      have z3 := Q3.cc.size
      have Q4 : Rn w S w4 (fun y => Nw w3 S1 y ∧ y < w4.heap.size) (wP wb mb xb aa ac σ2 x2' V2) := ⟨Q3.cc.sub c4 (fun y hy => Q3.oo y hy), fun y hy => by
        rcases hy.1 with hh | hh
        · exact Q3.oo y hh
        · exact .inr (by omega), fun y hy => hy.2, Side.fm.mono q4 fun y hy hs => ⟨hs, hy⟩⟩
      refine RUN.alloc rfl rfl (fun b6 w5 n5 => ?_)
      refine RUN.sta (vs := [i64 k, i64 g, i64 0]) n5.here rfl (by simp) (by simp [Value.oneCell']) (fun w6 u6 => ?_)
      have x46 : Ext w4 w6 := n5.ext.trans u6.ch (fun y hy hb => by have := n5.blk; omega)
      refine ART.add (by omega) (fun r6 h6 => ?_)
      subst h6
      refine Nxt.mk (i + 1) ?_ ?_ ?_
      · exact ⟨rfl, rfl, rfl, trivial⟩
      · refine ⟨by omega, σ2, x2', V2, _, Q4.ext x46, ⟨O2, f1.trans J1.fs, f3.trans J1.pl, ?_, by omega⟩, hv2.trans hv1, by omega⟩
        rcases f4 with ⟨h5, h6⟩ | h5
        · rw [h5, h6]; exact J1.p
        · rw [J1.fs] at h5
          exact hstep _ _ J1.p h5
      · omega
    · refine CEq.no (h0) ?_
      exact hR _ _ (done x2)
  · refine CLt.no ((by omega)) ?_
    exact hR _ _ (done (Ext.refl _))
/-- Nobody can go on. -/
theorem xstuck_in {S : Nat → Prop} {b : Nat} {x : XS} (h : XAt w S b x) (ht : x.tim = []) (hl : x.gs.length ≤ 1024) (h1 : ∀ y ∈ x.gs, y.st ≠ 1) (h3 : ∃ y ∈ x.gs, y.st = 3) : Calls PP 41 #[pt b] w (Pure w (.bool true)) := by
  obtain ⟨gp, L, hL, hgp, sd⟩ := h
  have T := sd.triv
  have hown := (T.get 1 rfl).2
  refine calls_den (fn := Tryz.f41) (args := [_]) Tryz.func41 rfl (by simp) (fun R hR => ?_)
  refine LOOP.inv (X := Nat × Bool) (fun i => [(0, pt b), (3, .bool i.2), (4, i64 i.1)]) (fun i w' => i.1 ≤ x.gs.length ∧ w' = w ∧ ((∃ n y, n < i.1 ∧ x.gs[n]? = some y ∧ y.st = 3) → i.2 = true)) (fun i => x.gs.length - i.1) (0, false) ⟨rfl, rfl, rfl, trivial⟩ ⟨Nat.zero_le _, rfl, by rintro ⟨n, y, h, _⟩; omega⟩ ?_
  rintro ⟨i, f⟩ _ ⟨hi, rfl, hf⟩ j
  simp only at hi hf
  refine RUN.ld hown rfl (rfl) ?_
  refine LEN.mk (x.gs.length : Int) (by simp [pts, hL.gl]) ?_
  by_cases hlt : i < x.gs.length
  · obtain ⟨y, hy⟩ : ∃ y, x.gs[i]? = some y := ⟨_, List.getElem?_eq_getElem hlt⟩
    obtain ⟨Lg, hLg, hLb, hSr, hrec, hstk⟩ := T.xgo hL hy
    obtain ⟨sb, so, pre, post, hga, r0, r1, r2⟩ := VS.open (T.get 3 rfl : VS _ S 135 L.ga L.gc (pts (L.gl.map (·.b)))) (by rw [pts_len]; have := (List.getElem?_eq_some_iff.1 hLb).1; omega)
    have hgl : i < (pts (L.gl.map (·.b))).length := by rw [pts_len]; exact (List.getElem?_eq_some_iff.1 hLb).1
    refine CLt.yes ((by omega)) ?_
    refine RUN.ld hown rfl ((xC_gs hga)) ?_
    refine BD.mk (so + i * 1) (by first | exact ⟨by decide, by decide, rfl⟩ | exact ⟨by omega, by omega, by omega⟩) ?_
    refine RUN.ld r1 rfl ((app_get r2 (pts_get hLb) rfl)) ?_
    refine RUN.ld hrec rfl (show _ = some (i64 y.st) from rfl) ?_
    refine CEq.no ((h1 y (List.mem_of_getElem? hy))) ?_
    cases f
    · refine RUN.ld hown rfl ((xC_gs hga)) ?_
      refine BD.mk (so + i * 1) (by first | exact ⟨by decide, by decide, rfl⟩ | exact ⟨by omega, by omega, by omega⟩) ?_
      refine RUN.ld r1 rfl ((app_get r2 (pts_get hLb) rfl)) ?_
      refine RUN.ld hrec rfl (show _ = some (i64 y.st) from rfl) ?_
      by_cases hs : y.st = 3
      · refine CEq.yes (hs) ?_
        refine ART.add (by omega) (fun r hr => ?_)
        subst hr
        refine Nxt.mk ((i + 1, true)) ?_ ?_ ?_
        · exact ⟨rfl, rfl, rfl, trivial⟩
        · exact ⟨hlt, rfl, fun _ => rfl⟩
        · show x.gs.length - (i + 1) < x.gs.length - i
          omega
      · refine CEq.no (hs) ?_
        refine ART.add (by omega) (fun r hr => ?_)
        subst hr
        refine Nxt.mk ((i + 1, false)) ?_ ?_ ?_
        · exact ⟨rfl, rfl, rfl, trivial⟩
        · refine ⟨hlt, rfl, ?_⟩
          rintro ⟨n, y', h4, h5, h6⟩
          rcases Nat.lt_or_ge n i with h7 | h7
          · exact hf ⟨n, y', h7, h5, h6⟩
          · have : n = i := by omega
            subst this
            rw [hy] at h5
            cases h5
            exact (hs h6).elim
        · show x.gs.length - (i + 1) < x.gs.length - i
          omega
    · refine ART.add (by omega) (fun r hr => ?_)
      subst hr
      refine Nxt.mk ((i + 1, true)) ?_ ?_ ?_
      · exact ⟨rfl, rfl, rfl, trivial⟩
      · exact ⟨hlt, rfl, fun _ => rfl⟩
      · show x.gs.length - (i + 1) < x.gs.length - i
        omega
  · refine CLt.no ((by omega)) ?_
    obtain ⟨y, hy, hs⟩ := h3
    obtain ⟨n, hn⟩ := List.getElem?_of_mem hy
    have : f = true := hf ⟨n, y, by have := (List.getElem?_eq_some_iff.1 hn).1; omega, hn, hs⟩
    subst this
    refine RUN.ld hown rfl (rfl) ?_
    refine LEN.mk 0 (by rw [ht]; rfl) ?_
    refine CEq.yes (rfl) ?_
    exact hR _ _ ⟨rfl, Ext.refl _⟩
end
end Go.E
end
