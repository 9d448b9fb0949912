/- A commit. -/
import Derived.Test.YtnbekdcepnfpaaaGreatDoorG22
set_option linter.unusedVariables false
set_option linter.unusedSimpArgs false
set_option maxRecDepth 10000
noncomputable section
namespace Go.E
open Go Go.Proofs

/-- What a commit's own function makes of a state. -/
def Clo (b p g : Nat) (i : In) (σ : MS) (cm : Cmt) (ad : Int) (σ' : MS) (cm' : Cmt) (to : Int) : Prop :=
  ∀ {w0 w : World} {S0 S : Nat → Prop} {L : ML} {X : Bx} {gb : Nat}, Rn w0 S0 w S (mP b σ L ++ bxP X cm 2 i ad gb b p g) → L.gb[g]? = some gb → Calls PP 247 (bxA X) w (CPost w0 S0 b X i ad gb p g L.pb σ' cm' to)
def mvS (σ : MS) (p g : Nat) (x : Prc) (y : Gor) : MS := setP (setG σ g y.mv) p { x with row := x.row + 1 }
theorem toF_commits {σ : MS} {p g : Nat} {x : Prc} {to : Int} : (toF σ p g x to).commits = σ.commits := by
  unfold toF
  split
  · rfl
  · split <;> rfl
theorem bx_in {w0 w : World} {S0 S : Nat → Prop} {Ps : List Cmp} {b4 b5 b6 b7 b8 b10 b11 b12 b13 gb b p g : Nat} {i : In} {ad to : Int} {cm : Cmt} (Q : Rn w0 S0 w S (Ps ++ [cAt b4 (B [pt b] 35), cAt b5 (B [i64 p] 3), cAt b6 (B (inC i) 33), cAt b7 (B [i64 ad] 3), cAt b8 (B [i64 0, i64 0, i64 0] 58), cAt b10 (B [i64 g] 3), cAt b11 (B [pt gb] 118), cAt b12 (B (cmC cm) 53), cAt b13 (B [i64 to] 3)])) :
    Rn w0 S0 w S (Ps ++ bxP ⟨b12, b13, b6, b7, b11, b4, b5, b10, b8⟩ cm to i ad gb b p g) :=
  Q.permR [7, 8, 2, 3, 6, 0, 1, 5, 4] rfl (by decide) (by
    rintro (_ | _ | _ | _ | _ | _ | _ | _ | _ | j) c hc <;> first | exact hc | (simp [bxP] at hc))
set_option maxHeartbeats 400000 in
theorem commit_in {w : World} {S : Nat → Prop} {b p g : Nat} {pi : Int} {σ σ2 : MS} {x y2 : Prc} {y : Gor} {i : In} {ad to : Int} {cm : Cmt}
    (h : MAt w S b σ) (hpi : pi = p) (hx : σ.ps[p]? = some x) (hg : x.g = g) (hy : σ.gs[g]? = some y) (hyl : y.stack.length = 16) (hpc : y.pc < 2 ^ 40) (hrow : 0 ≤ x.row ∧ x.row ≤ 2 ^ 40)
    (clo : Clo b p g i (mvS σ p g x y) (cmtOf g y i 0 false) ad σ2 cm to)
    (hx2 : σ2.ps[p]? = some y2) (hto : to = 2 ∨ ((to = 1 ∨ to = 3 ∨ to = 5) ∧ σ2.st[g]? = some 2)) (hr2 : p < σ2.rows.length) (hcl : σ2.common.length ≤ 2 ^ 30) (hcm : σ2.commits.length ≤ 2 ^ 30) :
    Calls PP 170 #[pt b, i64 pi, .agg (inC i).toArray, i64 ad] w
      (fun e w' => e = .returned (.agg #[i64 1, i64 g, i64 0]) ∧ MAt w' (Nw w S) b { toF σ2 p g y2 to with commits := (toF σ2 p g y2 to).commits ++ [cm] } ∧ Ch S w w') := by
  subst hpi
  obtain ⟨L, sd⟩ := h
  obtain ⟨S1, s1, Q⟩ := Rn.start sd
  obtain ⟨pb, hpb⟩ := Q.pat hx
  obtain ⟨sb, so, pre, post, he, r1, r2, r3, hpl⟩ := Q.psl hpb
  obtain ⟨gb, hgb⟩ := Q.gat hy
  obtain ⟨tb, tto, pre2, post2, he2, q1, q2, q3, hgl⟩ := Q.gsl hgb
  refine calls_sem (fn := Tryz.f170) (args := [_, _, _, _]) Tryz.func170 rfl (by simp) (fun R hR => ?_)
  refine SEM.cut (X := Bx × Nat) 8 (fun t => [(4, pt t.1.m), (5, pt t.1.p), (8, pt t.1.e), (9, pt t.2), (10, pt t.1.g), (12, pt t.1.c), (13, pt t.1.t)])
    (fun t w' => ∃ L' S', Rn w S w' S' (mP b σ2 L' ++ bxP t.1 cm to i ad gb b p g) ∧ L'.pb[p]? = some t.2) rfl ?_ ?_
  · refine RUN.box (fun b4 w1 n1 => ?_)
    refine RUN.box (fun b5 w2 n2 => ?_)
    refine RUN.box (fun b6 w3 n3 => ?_)
    refine RUN.box (fun b7 w4 n4 => ?_)
    refine RUN.alloc rfl rfl (fun b8 w5 n5 => ?_)
    obtain ⟨T1, Q1, k1⟩ := Q.add1 n1
    obtain ⟨T2, Q2, k2⟩ := Q1.add1 n2
    obtain ⟨T3, Q3, k3⟩ := Q2.add1 n3
    obtain ⟨T4, Q4, k4⟩ := Q3.add1 n4
    obtain ⟨T5, Q5, k5⟩ := Q4.add1 n5
    replace Q5 : Rn w S w5 T5 (mP b σ L ++ [cAt b4 (B [pt b] 35), cAt b5 (B [i64 p] 3), cAt b6 (B (inC i) 33), cAt b7 (B [i64 ad] 3), cAt b8 (B [i64 0, i64 0, i64 0] 58)]) := Q5
    obtain ⟨sb, so, pre, post, he, r1, r2, r3, hpl⟩ := Q5.bpsl hpb
    refine DRAW.q 5 (qs 5 0) (by kernel_rfl) (fun _ _ _ _ _ h => h) ?_
    refine RUNQ.ld (Q5.blk 17 rfl) rfl (rfl) ?_
    refine RUNQ.ld (Q5.blk 0 rfl) rfl ((mC_ps he)) ?_
    refine RUNQ.ld (Q5.blk 18 rfl) rfl (rfl) ?_
    intro w6 x6
    have Q6 := Q5.ext x6
    refine BD.mk (so + p * 1) (by first | exact ⟨by decide, by decide, rfl⟩ | exact ⟨by omega, by omega, by omega⟩) ?_
    refine RUN.ld (x6.at r2) rfl ((app_get r3 (pts_get hpb) rfl)) ?_
    refine RUN.ld (v := i64 g) (Q6.bprc hx hpb) rfl (by rw [← hg]; rfl) ?_
    refine RUN.alloc rfl rfl (fun b10 w7 n7 => ?_)
    refine RUN.sti n7.here rfl (by simp) (fun w8 u8 => ?_)
    obtain ⟨T8, Q8, k8⟩ := (Q6.add1 n7)
    replace Q8 := Q8.st 22 rfl u8
    replace Q8 : Rn w S w8 T8 (mP b σ L ++ [cAt b4 (B [pt b] 35), cAt b5 (B [i64 p] 3), cAt b6 (B (inC i) 33), cAt b7 (B [i64 ad] 3), cAt b8 (B [i64 0, i64 0, i64 0] 58), cAt b10 (B [i64 g] 3)]) := Q8
    obtain ⟨tb, tto, pre2, post2, he2, q1, q2, q3, hgl⟩ := Q8.bgsl hgb
    refine DRAW.q 8 [(0, .q), (1, .q), (2, .q), (3, .q), (4, .q), (5, .q), (6, .q), (7, .s)] (by kernel_rfl) (fun _ _ _ _ _ h => h) ?_
    refine RUNQ.ld (Q8.blk 17 rfl) rfl (rfl) ?_
    refine RUNQ.ld (Q8.blk 0 rfl) rfl ((mC_gs he2)) ?_
    refine RUNQ.ld (Q8.blk 22 rfl) rfl (rfl) ?_
    refine BD.mk (tto + g * 1) (by first | exact ⟨by decide, by decide, rfl⟩ | exact ⟨by omega, by omega, by omega⟩) ?_
    refine RUNQ.ld q2 rfl ((app_get q3 (pts_get hgb) rfl)) ?_
    intro w9 x9 _
    refine RUN.alloc rfl rfl (fun b11 w10 n10 => ?_)
    refine ⟨x9.trans' n10.ext, ?_⟩
    intro w11 x11
    obtain ⟨T10, Q10, k10⟩ := ((Q8.ext x9).add1 n10)
    have Q11 := Q10.ext x11
    refine RUN.stp (Q11.blk 23 rfl) rfl (by simp) (fun w12 u12 => ?_)
    have Q12 := Q11.st 23 rfl u12
    replace Q12 : Rn w S w12 T10 (mP b σ L ++ [cAt b4 (B [pt b] 35), cAt b5 (B [i64 p] 3), cAt b6 (B (inC i) 33), cAt b7 (B [i64 ad] 3), cAt b8 (B [i64 0, i64 0, i64 0] 58), cAt b10 (B [i64 g] 3), cAt b11 (B [pt gb] 118)]) := Q12
    refine DRAW.q 13 [(0, .q), (1, .q), (2, .q), (3, .q), (4, .q), (5, .q), (6, .q), (7, .q), (8, .q), (9, .q), (10, .q), (11, .q), (12, .s)] (by kernel_rfl) (fun _ _ _ _ _ h => h) ?_
    refine RUNQ.ld (Q12.blk 22 rfl) rfl (rfl) ?_
    refine RUNQ.ld (Q12.blk 23 rfl) rfl (rfl) ?_
    refine RUNQ.ld (Q12.bgor hy hgb) rfl (show _ = some (i64 y.f) from rfl) ?_
    refine RUNQ.ld (Q12.blk 23 rfl) rfl (rfl) ?_
    refine RUNQ.ld (Q12.bgor hy hgb) rfl (show _ = some (i64 y.pc) from rfl) ?_
    refine RUNQ.ld (Q12.blk 19 rfl) rfl (show _ = some (i64 i.op) from rfl) ?_
    intro w13 x13 _
    refine RUN.alloc rfl rfl (fun b12 w14 n14 => ?_)
    refine ⟨x13.trans' n14.ext, ?_⟩
    intro w15 x15
    obtain ⟨T14, Q14, k14⟩ := ((Q12.ext x13).add1 n14)
    have Q15 := Q14.ext x15
    refine RUN.sta (vs := [i64 g, i64 y.f, i64 y.pc, i64 i.op, i64 0, .bool false]) (Q15.blk 24 rfl) rfl (by simp) (by simp [Value.oneCell']) (fun w16 u16 => ?_)
    have Q16 := Q15.st 24 rfl u16
    replace Q16 : Rn w S w16 T14 (mP b σ L ++ [cAt b4 (B [pt b] 35), cAt b5 (B [i64 p] 3), cAt b6 (B (inC i) 33), cAt b7 (B [i64 ad] 3), cAt b8 (B [i64 0, i64 0, i64 0] 58), cAt b10 (B [i64 g] 3), cAt b11 (B [pt gb] 118), cAt b12 (B (cmC (cmtOf g y i 0 false)) 53)]) := Q16
    refine RUN.ld (Q16.blk 23 rfl) rfl (rfl) ?_
    refine RUN.ld (Q16.bgor hy hgb) rfl (show _ = some (i64 y.pc) from rfl) ?_
    refine ART.add (by omega) (fun r hr => ?_)
    refine RUN.sti (Q16.bgor hy hgb) rfl (by rw [gorC_len hyl]; decide) (fun w17 u17 => ?_)
    have e17 : r = ((y.pc + 1 : Nat) : Int) := by omega
    subst e17
    have u17' : Upd w16 w17 gb (B (gorC y.mv) 121) := u17
    have Q17 := Q16.bsetG hgb u17'
    have hx17 : (setG σ g y.mv).ps[p]? = some x := hx
    refine RUN.ld (Q17.bprc hx17 hpb) rfl (show _ = some (i64 x.row) from rfl) ?_
    refine ART.add (by omega) (fun r' hr' => ?_)
    refine RUN.sti (Q17.bprc hx17 hpb) rfl (by simp [prcC]) (fun w18 u18 => ?_)
    subst hr'
    have u18' : Upd w17 w18 pb (B (prcC { x with row := x.row + 1 }) 128) := u18
    have Q18 := Q17.bsetP (x := x) (x' := { x with row := x.row + 1 }) hx17 hpb rfl u18'
    refine RUN.alloc rfl rfl (fun b13 w19 n19 => ?_)
    refine RUN.sti n19.here rfl (by simp) (fun w20 u20 => ?_)
    obtain ⟨T19, Q19, k19⟩ := Q18.add1 n19
    have Q20 := Q19.st 25 rfl u20
    replace Q20 : Rn w S w20 T19 (mP b (mvS σ p g x y) L ++ [cAt b4 (B [pt b] 35), cAt b5 (B [i64 p] 3), cAt b6 (B (inC i) 33), cAt b7 (B [i64 ad] 3), cAt b8 (B [i64 0, i64 0, i64 0] 58), cAt b10 (B [i64 g] 3), cAt b11 (B [pt gb] 118), cAt b12 (B (cmC (cmtOf g y i 0 false)) 53), cAt b13 (B [i64 2] 3)]) := Q20
    have Q21 : Rn w S w20 T19 (mP b (mvS σ p g x y) L ++ bxP ⟨b12, b13, b6, b7, b11, b4, b5, b10, b8⟩ (cmtOf g y i 0 false) 2 i ad gb b p g) := bx_in Q20
    have hcall : Calls PP 247 [pt b12, pt b13, pt b6, pt b7, pt b11, pt b4, pt b5, pt b10].toArray w20 (CPost w S b ⟨b12, b13, b6, b7, b11, b4, b5, b10, b8⟩ i ad gb p g L.pb σ2 cm to) := clo Q21 hgb
    clear Q21 Q20 Q19 Q18 Q17 Q16 Q15 Q14 Q12 Q11 Q10 Q8 Q6 Q5 Q4 Q3 Q2 Q1
    refine CALL.by hcall rfl ?_
    rintro e w22 ⟨rfl, L', S', e1, Q22⟩
    exact ⟨rfl, (⟨b12, b13, b6, b7, b11, b4, b5, b10, b8⟩, pb), ⟨rfl, rfl, rfl, rfl, rfl, rfl, rfl, trivial⟩, L', S', Q22, by rw [e1]; exact hpb⟩
  · rintro ⟨X, pb'⟩ w1 ⟨L1, S1', Q1, hpb1⟩ j1
    simp only at Q1 hpb1
    refine SEM.cut (X := Unit) 0 (fun t => [(4, pt X.m), (5, pt X.p), (8, pt X.e), (10, pt X.g), (12, pt X.c), (13, pt X.t)])
      (fun t w' => ∃ S', Rn w S w' S' (mP b (toF σ2 p g y2 to) L1 ++ bxP X cm to i ad gb b p g)) rfl ?_ ?_
    · refine RUN.ld (Q1.blk 18 rfl) rfl (rfl) ?_
      by_cases h2 : to = 2
      · refine CEq.yes (h2) ?_
        exact ⟨rfl, (), ⟨rfl, rfl, rfl, rfl, rfl, rfl, trivial⟩, S1', by unfold toF; rw [if_pos h2]; exact Q1⟩
      · obtain ⟨hto, hst⟩ := hto.resolve_left h2
        refine CEq.no (h2) ?_
        refine DRAW.q 6 (qs 6 0) (by kernel_rfl) (fun _ _ _ _ _ h => h) ?_
        refine RUNQ.ld (Q1.blk 22 rfl) rfl (rfl) ?_
        refine RUNQ.ld (Q1.blk 0 rfl) rfl (rfl) ?_
        refine RUNQ.ld (Q1.blk 24 rfl) rfl (rfl) ?_
        refine RUNQ.ld (Q1.blk 18 rfl) rfl (rfl) ?_
        intro w2 x2
        have Q2 := Q1.ext x2
        obtain ⟨Si, si, hP, cl⟩ := Q2.step 3 rfl
        refine CALL.by (move_in' (g := g) rfl hst (by rcases hto with rfl | rfl | rfl <;> rfl) (by omega) hP) rfl ?_
        rintro e w3 ⟨rfl, q3, c3⟩
        obtain ⟨S3, Q3, kp3, kn3⟩ := cl (cSt L1.st (σ2.st.set g to)) c3 (Own.refl _ _) q3
        replace Q3 : Rn w S w3 S3 (mP b (mvF σ2 g to) L1 ++ bxP X cm to i ad gb b p g) := Q3
        have hx3 : (mvF σ2 g to).ps[p]? = some y2 := hx2
        refine RUN.sti (Q3.bprc hx3 hpb1) rfl (by simp [prcC]) (fun w4 u4 => ?_)
        have Q4 := Q3.bsetP (x := y2) (x' := { y2 with g := -1 }) hx3 hpb1 rfl u4
        refine RUN.ld (Q4.blk 18 rfl) rfl (rfl) ?_
        by_cases h1 : to = 1
        · refine CEq.yes (h1) ?_
          refine DRAW.q 6 (qs 6 0) (by kernel_rfl) (fun _ _ _ _ _ h => h) ?_
          refine RUNQ.ld (Q4.blk 22 rfl) rfl (rfl) ?_
          refine RUNQ.ld (Q4.blk 0 rfl) rfl (rfl) ?_
          refine RUNQ.ld (Q4.blk 23 rfl) rfl (rfl) ?_
          refine RUNQ.ld (Q4.blk 24 rfl) rfl (rfl) ?_
          intro w5 x5
          have Q5 := Q4.ext x5
          obtain ⟨Sj, sj, hQ, cl2⟩ := Q5.step 8 rfl
          refine CALL.by (ready_in' (g := (g : Int)) hQ rfl hr2 hcl) rfl ?_
          rintro e w6 ⟨rfl, q6, c6⟩
          obtain ⟨S6, Q6, kp6, kn6⟩ := cl2 (cSc L1.sc _ _) c6 (Nw.own _ _) q6
          refine ⟨rfl, (), ⟨rfl, rfl, rfl, rfl, rfl, rfl, trivial⟩, S6, ?_⟩
          unfold toF
          rw [if_neg h2, if_pos h1]
          subst h1
          exact Q6
        · refine CEq.no (h1) ?_
          exact ⟨rfl, (), ⟨rfl, rfl, rfl, rfl, rfl, rfl, trivial⟩, S3, by unfold toF; rw [if_neg h2, if_neg h1]; exact Q4⟩
    · rintro ⟨⟩ w2 ⟨S2, Q2⟩ j2
      refine SEM.of ?_
      have hcm2 : (toF σ2 p g y2 to).commits.length ≤ 2 ^ 30 := by rw [toF_commits]; exact hcm
      generalize hσ3 : toF σ2 p g y2 to = σ3 at *
      refine DRAW.k 8 [(0, .q), (1, .q), (2, .q), (3, .q), (4, .q), (5, .q), (6, .s), (7, .s)] [X.m, b, X.c] (by kernel_rfl) (fun _ _ _ _ _ h => h) ?_
      refine RUNQ.kld (Q2.blk 22 rfl) (by simp) rfl (rfl) ?_
      refine RUNQ.kld (Q2.blk 22 rfl) (by simp) rfl (rfl) ?_
      refine RUNQ.kld (Q2.blk 0 rfl) (by simp) rfl (rfl) ?_
      refine RUNQ.klda (vs := cmC cm) (Q2.blk 17 rfl) (by simp) rfl (Nat.le_of_ble_eq_true rfl) rfl ?_
      intro w3 x3 s3
      refine RUN.buildSlice rfl rfl rfl rfl rfl rfl rfl (fun b14 w4 n4 => ?_)
      have s4 : Keep w2 [X.m, b, X.c] w4 := Keep.ext _ _ _ _ s3 n4.ext
      refine ⟨s4, ?_⟩
      intro w5 x5 s5
      have Q5 := ((Q2.ext x3).ext n4.ext).ext x5
      obtain ⟨Si, si, sn, hP, cl⟩ := Q5.stepN 15 rfl
      refine RUN.mapp1 (rs := σ3.commits.map cmC) (r := cmC cm) hP (x5.at n4.here) rfl rfl rfl rfl rfl rfl rfl (by simp [cmC, Value.oneCell']) (by simp; omega) rfl (fun a' c' w6 hv hc => ?_)
      obtain ⟨S6', o6, q6⟩ := hv
      obtain ⟨S6, Q6⟩ := cl (cMSl 53 6 a' c' (σ3.commits.map cmC ++ [cmC cm])) hc o6 q6
      refine ⟨Keep.ch s5 hc (fun y hy hl => ?_), ?_⟩
      · simp at hy
        rcases hy with rfl | rfl | rfl
        · exact sn 22 _ _ rfl (by decide)
        · exact sn 0 _ _ rfl (by decide)
        · exact sn 17 _ _ rfl (by decide)
      intro w7 x7
      have Q7 := Q6.ext x7
      refine RUN.stl (Q7.blk 0 rfl) rfl (Nat.le_of_ble_eq_true rfl) (fun w8 u8 => ?_)
      have Q8 := Q7.st 0 rfl u8
      have e8 : σ3.commits.map cmC ++ [cmC cm] = (σ3.commits ++ [cm]).map cmC := by simp
      rw [e8] at Q8
      replace Q8 : Rn w S w8 S6 (mP b { σ3 with commits := σ3.commits ++ [cm] } { L1 with ca := a', cc := c' } ++ bxP X cm to i ad gb b p g) := Q8
      refine RUN.ld (Q8.blk 24 rfl) rfl (rfl) ?_
      refine CALL.by (event_in w8) rfl ?_
      rintro e w9 ⟨rfl, x9⟩
      have Q9 := Q8.ext x9
      refine RUN.sta (vs := [i64 1, i64 g, i64 0]) (Q9.blk 25 rfl) rfl (by simp) (by simp [Value.oneCell']) (fun w10 u10 => ?_)
      have Q10 := Q9.st 25 rfl u10
      refine RUN.lda (vs := [i64 1, i64 g, i64 0]) u10.here rfl (Nat.le_of_ble_eq_true rfl) rfl ?_
      refine ⟨rfl, hR _ _ ⟨rfl, ?_, Q10.cc⟩⟩
      exact MAt.fm.mono Q10.bmq (fun y _ hy => Q10.oo y hy)
end Go.E
end
/- A goroutine goes on by an instruction, or is put away. -/
set_option linter.unusedVariables false
set_option linter.unusedSimpArgs false
set_option maxRecDepth 10000
noncomputable section
namespace Go.E
open Go Go.Proofs

def awayB (σ : MS) (p : Nat) (x : Prc) : Prop := (16 ≤ x.row ∧ 0 < (row σ p).length + σ.common.length) ∨ (2 ≤ x.row ∧ 0 < σ.common.length ∧ σ.ph.phase = 0)
def evV (k g : Int) : Value := .agg #[i64 k, i64 g, i64 0]
theorem fin_store {w0 w : World} {S0 S : Nat → Prop} {b : Nat} {σ : MS} {L : ML} {bx : List Cmp} (Q : Rn w0 S0 w S (mP b σ L ++ bx)) : MAt w (Nw w0 S0) b σ := MAt.fm.mono Q.bmq (fun y _ hy => Q.oo y hy)
theorem run_in {w : World} {S : Nat → Prop} {b p g : Nat} {pi : Int} {σ σ2 : MS} {x y2 : Prc} {y : Gor} {i : In} {l : List In} {to : Int} {cm : Cmt}
    (h : MAt w S b σ) (hpi : pi = p) (hx : σ.ps[p]? = some x) (hg : x.g = g) (hy : σ.gs[g]? = some y) (hyl : y.stack.length = 16) (hpc : y.pc < 2 ^ 40) (hrow : 0 ≤ x.row ∧ x.row ≤ 2 ^ 40)
    (hst : σ.st[g]? = some 2) (hr : p < σ.rows.length) (hc0 : σ.common.length ≤ 2 ^ 30) (hrl : (row σ p).length ≤ 2 ^ 30)
    (hl : σ.fs[y.f]? = some l) (hi : i = (l[y.pc]?).getD ⟨0, 0, 0, 0⟩) (hop : i.op ≠ 1)
    (clo : ¬ awayB σ p x → Clo b p g i (mvS σ p g x y) (cmtOf g y i 0 false) 0 σ2 cm to)
    (hx2 : σ2.ps[p]? = some y2) (hto : to = 2 ∨ ((to = 1 ∨ to = 3 ∨ to = 5) ∧ σ2.st[g]? = some 2)) (hr2 : p < σ2.rows.length) (hcl : σ2.common.length ≤ 2 ^ 30) (hcm : σ2.commits.length ≤ 2 ^ 30) :
    Calls PP 107 #[pt b, i64 pi] w (fun e w' => ((awayB σ p x ∧ e = .returned (evV 2 g) ∧ MAt w' (Nw w S) b (awayF σ p g x)) ∨
      (¬ awayB σ p x ∧ e = .returned (evV 1 g) ∧ MAt w' (Nw w S) b { toF σ2 p g y2 to with commits := (toF σ2 p g y2 to).commits ++ [cm] })) ∧ Ch S w w') := by
  subst hpi
  obtain ⟨L, sd⟩ := h
  obtain ⟨S1, s1, Q⟩ := Rn.start sd
  obtain ⟨pb, hpb⟩ := Q.pat hx
  obtain ⟨gb, hgb⟩ := Q.gat hy
  have hrow' : σ.rows[(p : Int).toNat]? = some (row σ p) := by simp [row, List.getD_eq_getElem?_getD, hr]
  refine calls_sem (fn := Tryz.f107) (args := [_, _]) Tryz.func107 rfl (by simp) (fun R hR => ?_)
  refine SEM.cut (X := Nat) 4 (fun b4 => [(0, pt b), (1, i64 p), (4, pt b4), (5, pt pb), (6, pt gb)])
    (fun b4 w' => ¬ awayB σ p x ∧ ∃ S', Rn w S w' S' (mP b σ L ++ [cAt b4 (B [i64 0, i64 0, i64 0] 58)])) rfl ?_ ?_
  · refine RUN.alloc rfl rfl (fun b4 w1 n1 => ?_)
    obtain ⟨T1, Q1, k1⟩ := Q.add1 n1
    obtain ⟨sb, so, pre, post, he, r1, r2, r3, hpl⟩ := Q1.bpsl hpb
    obtain ⟨tb, tto, pre2, post2, he2, q1, q2, q3, hgl⟩ := Q1.bgsl hgb
    refine RUN.ld (Q1.blk 0 rfl) rfl ((mC_ps he)) ?_
    refine BD.mk (so + p * 1) (by first | exact ⟨by decide, by decide, rfl⟩ | exact ⟨by omega, by omega, by omega⟩) ?_
    refine RUN.ld r2 rfl ((app_get r3 (pts_get hpb) rfl)) ?_
    refine DRAW.q 8 (qs 8 0) (by kernel_rfl) (fun _ _ _ _ _ h => h) ?_
    refine RUNQ.ld (Q1.blk 0 rfl) rfl ((mC_gs he2)) ?_
    refine RUNQ.ld (v := i64 g) (Q1.bprc hx hpb) rfl (by rw [← hg]; rfl) ?_
    intro w2 x2
    have Q2 := Q1.ext x2
    refine BD.mk (tto + g * 1) (by first | exact ⟨by decide, by decide, rfl⟩ | exact ⟨by omega, by omega, by omega⟩) ?_
    refine RUN.ld (x2.at q2) rfl ((app_get q3 (pts_get hgb) rfl)) ?_
    refine RUN.ld (Q2.blk 0 rfl) rfl (rfl) ?_
    refine CALL.by (common_in (Q2.get 8 rfl) hc0) rfl ?_
    rintro e w3 ⟨⟨a3, c3, rfl, v3⟩, x3⟩
    have Q3 := Q2.ext x3
    refine LEN.mk (σ.common.length : Int) (by rw [ints_length]) ?_
    refine RUN.ld (Q3.bprc hx hpb) rfl (show _ = some (i64 x.row) from rfl) ?_
    by_cases h16 : 16 ≤ x.row
    · refine CLt.no ((by omega)) ?_
      refine RUN.ld (Q3.blk 0 rfl) rfl (rfl) ?_
      refine CALL.by (local_in (Q3.get 8 rfl) (by omega) hrow') rfl ?_
      rintro e w4 ⟨⟨a4, c4, rfl, v4⟩, x4⟩
      have Q4 := Q3.ext x4
      refine LEN.mk ((row σ p).length : Int) (by rw [ints_length]) ?_
      refine ART.add (by omega) (fun r hr3 => ?_)
      by_cases hs : 0 < r
      · have hA : awayB σ p x := .inl ⟨h16, by omega⟩
        refine CLt.yes (hs) ?_
        obtain ⟨Sm, hM, cl⟩ := (Q4).bm
        refine CALL.by (away_in ⟨L, hM⟩ rfl hx hg hst hr hc0) rfl ?_
        rintro e v1 ⟨rfl, ⟨L', m⟩, c⟩
        obtain ⟨S', Qz⟩ := cl c m
        refine RUN.sta (vs := [i64 2, i64 g, i64 0]) (Qz.blk 17 rfl) rfl (by simp) (by simp [Value.oneCell']) (fun v2 u2 => ?_)
        have Qy := Qz.st 17 rfl u2
        refine RUN.lda (vs := [i64 2, i64 g, i64 0]) u2.here rfl (Nat.le_of_ble_eq_true rfl) rfl ?_
        exact ⟨rfl, hR _ _ ⟨.inl ⟨hA, rfl, fin_store Qy⟩, Qy.cc⟩⟩
      · refine CLt.no (hs) ?_
        refine RUN.ld (Q4.bprc hx hpb) rfl (show _ = some (i64 x.row) from rfl) ?_
        refine CLt.no ((by omega)) ?_
        refine CLt.no ((by omega)) ?_
        exact ⟨rfl, b4, ⟨rfl, rfl, rfl, rfl, rfl, trivial⟩, by rintro (h | h); exact hs (by omega); have := h.2.1; omega, T1, Q4⟩
    · refine CLt.yes ((by omega)) ?_
      refine RUN.ld (Q3.bprc hx hpb) rfl (show _ = some (i64 x.row) from rfl) ?_
      by_cases h2 : 2 ≤ x.row
      · refine CLt.no ((by omega)) ?_
        by_cases hc : 0 < σ.common.length
        · refine CLt.yes ((by omega)) ?_
          refine RUN.ld (Q3.blk 0 rfl) rfl (rfl) ?_
          refine CALL.by (phase_in (Q3.get 12 rfl)) rfl ?_
          rintro e w4 ⟨rfl, x4⟩
          have Q4 := Q3.ext x4
          by_cases hp : σ.ph.phase = 0
          · have hA : awayB σ p x := .inr ⟨h2, hc, hp⟩
            refine CEq.yes (hp) ?_
            obtain ⟨Sm, hM, cl⟩ := (Q4).bm
            refine CALL.by (away_in ⟨L, hM⟩ rfl hx hg hst hr hc0) rfl ?_
            rintro e v1 ⟨rfl, ⟨L', m⟩, c⟩
            obtain ⟨S', Qz⟩ := cl c m
            refine RUN.sta (vs := [i64 2, i64 g, i64 0]) (Qz.blk 17 rfl) rfl (by simp) (by simp [Value.oneCell']) (fun v2 u2 => ?_)
            have Qy := Qz.st 17 rfl u2
            refine RUN.lda (vs := [i64 2, i64 g, i64 0]) u2.here rfl (Nat.le_of_ble_eq_true rfl) rfl ?_
            exact ⟨rfl, hR _ _ ⟨.inl ⟨hA, rfl, fin_store Qy⟩, Qy.cc⟩⟩
          · refine CEq.no (hp) ?_
            exact ⟨rfl, b4, ⟨rfl, rfl, rfl, rfl, rfl, trivial⟩, by rintro (h | h); exact h16 h.1; exact hp h.2.2, T1, Q4⟩
        · refine CLt.no ((by omega)) ?_
          exact ⟨rfl, b4, ⟨rfl, rfl, rfl, rfl, rfl, trivial⟩, by rintro (h | h); exact h16 h.1; exact hc h.2.1, T1, Q3⟩
      · refine CLt.yes ((by omega)) ?_
        exact ⟨rfl, b4, ⟨rfl, rfl, rfl, rfl, rfl, trivial⟩, by rintro (h | h); exact h16 h.1; exact h2 h.1, T1, Q3⟩
  · rintro b4 w1 ⟨hA, S1', Q1⟩ j1
    refine SEM.cut (X := Nat) 1 (fun b8 => [(0, pt b), (1, i64 p), (4, pt b4), (8, pt b8)])
      (fun b8 w' => ∃ S', Rn w S w' S' (mP b σ L ++ [cAt b4 (B [i64 0, i64 0, i64 0] 58), cAt b8 (B (inC i) 33)])) rfl ?_ ?_
    · refine RUN.alloc rfl rfl (fun b8 w2 n2 => ?_)
      obtain ⟨T2, Q2, k2⟩ := Q1.add1 n2
      refine RUN.sta (vs := [i64 0, i64 0, i64 0, i64 0]) n2.here rfl (by simp) (by simp [Value.oneCell']) (fun w3 u3 => ?_)
      have Q3 := Q2.st 18 rfl u3
      replace Q3 : Rn w S w3 T2 (mP b σ L ++ [cAt b4 (B [i64 0, i64 0, i64 0] 58), cAt b8 (B [i64 0, i64 0, i64 0, i64 0] 33)]) := Q3
      obtain ⟨ls, hls, ⟨vs, hvs, hv, hve⟩, hm⟩ := Q3.get 1 rfl
      have hfl := (List.getElem?_eq_some_iff.1 hl).1
      obtain ⟨x0, hx0⟩ : ∃ x0, ls[y.f]? = some x0 := ⟨ls[y.f]'(by omega), List.getElem?_eq_getElem _⟩
      have hv0 := hve _ _ _ hx0 hl
      have hm0 := hm _ _ _ hx0 hl
      obtain ⟨fb, fo, fpre, fpost, hfa, f1, f2, f3⟩ := hv.open (by omega)
      refine DRAW.q 9 (qs 9 0) (by kernel_rfl) (fun _ _ _ _ _ h => h) ?_
      refine RUNQ.ld (v := .slice (some ⟨fb, fo, none⟩) σ.fs.length L.fc) (Q3.blk 0 rfl) rfl (by rw [← hfa]; rfl) ?_
      refine RUNQ.ld (Q3.bgor hy hgb) rfl (show _ = some (i64 y.f) from rfl) ?_
      obtain ⟨xa, xc⟩ := x0
      simp only at hv0 hm0
      intro w4 x4
      have Q4 := Q3.ext x4
      refine BD.mk (fo + y.f * 1) ⟨by omega, by omega, rfl⟩ ?_
      refine RUN.ld (v := .slice xa l.length xc) (x4.at f2) rfl (app_get f3 hv0 rfl) ?_
      refine RUN.ld (Q4.bgor hy hgb) rfl (show _ = some (i64 y.pc) from rfl) ?_
      refine LEN.mk (l.length : Int) rfl ?_
      by_cases hp : y.pc < l.length
      · have hi2 : l[y.pc]? = some i := by rw [hi, List.getElem?_eq_getElem hp]; rfl
        obtain ⟨ib, io, ipre, ipost, rfl, i1, i2, i3, i4⟩ := (MSl.fm.ext hm0 x4).open (by simp; omega)
        refine CLt.yes (by omega) ?_
        refine RUN.ld (Q4.bgor hy hgb) rfl (show _ = some (i64 y.pc) from rfl) ?_
        refine BD.mk (io + y.pc * 4) ⟨by omega, by omega, rfl⟩ ?_
        refine RUN.lda (vs := inC i) i2 rfl (mapp_len hm0.1 i3 (by simpa using hp) rfl) (mapp_row hm0.1 i3 (by simp [hi2]) rfl) ?_
        refine RUN.sta (vs := inC i) (Q4.blk 18 rfl) rfl (by simp [inC]) (by simp [inC, Value.oneCell']) (fun w5 u5 => ?_)
        exact ⟨rfl, b8, ⟨rfl, rfl, rfl, rfl, trivial⟩, T2, Q4.st 18 rfl u5⟩
      · refine CLt.no (by omega) ?_
        have e : i = ⟨0, 0, 0, 0⟩ := by rw [hi, List.getElem?_eq_none (by omega)]; rfl
        rw [e]
        exact ⟨rfl, b8, ⟨rfl, rfl, rfl, rfl, trivial⟩, T2, Q4⟩
    · rintro b8 w2 ⟨S2, Q2⟩ j2
      refine SEM.of ?_
      refine RUN.ld (Q2.blk 18 rfl) rfl (show _ = some (i64 i.op) from rfl) ?_
      refine CEq.no (by omega) ?_
      refine RUN.lda (vs := inC i) (Q2.blk 18 rfl) rfl (Nat.le_of_ble_eq_true rfl) rfl ?_
      obtain ⟨Sm, hM, cl⟩ := Q2.bm
      refine CALL.by (commit_in ⟨L, hM⟩ rfl hx hg hy hyl hpc hrow (clo hA) hx2 hto hr2 hcl hcm) rfl ?_
      rintro e w3 ⟨rfl, ⟨L', m3⟩, c3⟩
      obtain ⟨S3, Q3⟩ := cl c3 m3
      refine RUN.sta (vs := [i64 1, i64 g, i64 0]) (Q3.blk 17 rfl) rfl (by simp) (by simp [Value.oneCell']) (fun w4 u4 => ?_)
      have Q4 := Q3.st 17 rfl u4
      refine RUN.lda (vs := [i64 1, i64 g, i64 0]) u4.here rfl (Nat.le_of_ble_eq_true rfl) rfl ?_
      exact ⟨rfl, hR _ _ ⟨.inr ⟨hA, rfl, fin_store Q4⟩, Q4.cc⟩⟩
end Go.E
end
/- Who looks into nothing. -/
set_option linter.unusedVariables false
set_option linter.unusedSimpArgs false
set_option maxRecDepth 10000
noncomputable section
namespace Go.E
open Go Go.Proofs

/-- A heap in which no object is. -/
structure HpNone (hp : Nat → Cmp) : Prop where
  load : ∀ {w : World} {S : Nat → Prop} {b : Nat}, (hp b).P w S → Calls PP 68 #[pt b] w (fun e w' => ∃ ab, e = .returned (pt ab) ∧ Ext w w' ∧ ∀ a k, Calls PP 261 #[pt ab, i64 a, i64 k] w' (Pure w' (.tuple #[i64 0, i64 4])))
theorem hp0_none (n : Int) : HpNone (cHp0 n) := by
  refine ⟨fun {w S b} h => ?_⟩
  obtain ⟨ab, cb, pb, s, o, ob, ra, rc, own, h⟩ := h
  have h0 := h.blk 0 rfl
  have h1 := h.blk 1 rfl
  obtain ⟨_, ms, clock, h2, h3, h4⟩ := h.get 3 rfl
  have hms : ms = [] := by simpa using h4
  subst hms
  refine calls_den (fn := Tryz.f68) (args := [_]) Tryz.func68 rfl (by simp) (fun R hR => ?_)
  refine RUN.ld h0 rfl (rfl) ?_
  refine hR _ _ ⟨ab, rfl, Ext.refl w, fun a k => ?_⟩
  have slot : Calls PP 314 #[pt ab, i64 a, i64 k] w (Pure w (.tuple #[.pointer none, i64 4])) := by
    refine calls_den (fn := Tryz.f314) (args := [_, _, _]) Tryz.func314 rfl (by simp) (fun R hR => ?_)
    refine RUN.ld h1 rfl (rfl) ?_
    refine RUN.look (e := 37) (z := .slice none 0 0) h2 rfl rfl rfl rfl ?_
    exact hR _ _ ⟨rfl, Ext.refl w⟩
  refine calls_den (fn := Tryz.f261) (args := [_, _, _]) Tryz.func261 rfl (by simp) (fun R hR => ?_)
  refine CALL.by (slot) rfl ?_
  rintro e w1 ⟨rfl, x1⟩
  refine CEq.no (by omega) ?_
  exact hR _ _ ⟨rfl, x1⟩
section
variable {w0 w : World} {S0 S : Nat → Prop} {b : Nat} {σ : MS} {L : ML} {bx : List Cmp} {p g gb : Nat} {y : Gor} {ia ib ic : Int}
theorem slot_none (Q : Rn w0 S0 w S (mP b σ L ++ bx)) (hn : HpNone σ.hp) (a k : Int) : Calls PP 303 #[pt b, i64 a, i64 k] w (fun e w' => e = .panicked [faultV] ∧ Ext w w') := by
  refine calls_den (fn := Tryz.f303) (args := [_, _, _]) Tryz.func303 rfl (by simp) (fun R hR => ?_)
  refine RUN.ld (Q.blk 0 rfl) rfl (rfl) ?_
  refine CALL.by (hn.load (Q.get 2 rfl)) rfl ?_
  rintro e w1 ⟨ab, rfl, x1, hc⟩
  refine CALL.by (hc a k) rfl ?_
  rintro e w2 ⟨rfl, x2⟩
  refine CEq.no (by omega) ?_
  exact hR _ _ ⟨rfl, x1.trans' x2⟩
theorem data_fault {a j : Nat} (Q : Rn w0 S0 w S (mP b σ L ++ bx)) (hn : HpNone σ.hp) (hy : σ.gs[g]? = some y) (hgb : L.gb[g]? = some gb) (hyl : y.stack.length = 16) (ha : ia = a) (hj : ib = j) (ha2 : a < 16) (hj2 : j < 16) :
    Calls PP 249 #[pt b, i64 p, pt gb, .agg #[i64 2, i64 ia, i64 ib, i64 ic]] w (fun e w' => e = .panicked [faultV] ∧ Ext w w') := by
  subst ha hj
  refine calls_den (fn := Tryz.f249) (args := [_, _, _, _]) Tryz.func249 rfl (by simp) (fun R hR => ?_)
  refine RUN.box (fun b7 w2 n2 => ?_)
  have Q2 := Q.ext n2.ext
  have f7 := n2.here
  refine RUN.ld f7 rfl (rfl) ?_
  refine CEq.yes (rfl) ?_
  refine DRAW.q 16 [(0, .q), (1, .q), (2, .q), (3, .q), (4, .q), (5, .q), (6, .q), (7, .q), (8, .q), (9, .q), (10, .q), (11, .q), (12, .q), (14, .q), (15, .q), (13, .s)] (by kernel_rfl) (fun _ _ _ _ _ h => h) ?_
  refine RUNQ.ld f7 rfl (rfl) ?_
  refine RUNQ.ld f7 rfl (rfl) ?_
  refine BD.mk (3 + j * 1) (by first | exact ⟨by decide, by decide, rfl⟩ | exact ⟨by omega, by omega, by omega⟩) ?_
  refine RUNQ.ld (v := i64 (stk y j)) (Q2.bgor hy hgb) rfl (gorC_get hyl hj2 (by omega)) ?_
  refine RUNQ.ld f7 rfl (rfl) ?_
  intro w3 x3 _
  refine CALL.by (slot_none (Q2.ext x3) hn _ _) rfl ?_
  rintro e w4 ⟨rfl, x4⟩
  exact hR _ _ ⟨rfl, (n2.ext.trans' x3).trans' x4⟩
end
section
variable {w0 w : World} {S0 S : Nat → Prop} {b : Nat} {σ : MS} {L : ML} {X : Bx} {cm : Cmt} {to ad : Int} {p g gb : Nat} {y : Gor} {ia ib ic : Nat}
theorem clo_dfault (Q : Rn w0 S0 w S (mP b σ L ++ bxP X cm to ⟨2, ia, ib, ic⟩ ad gb b p g)) (hn : HpNone σ.hp) (hy : σ.gs[g]? = some y) (hgb : L.gb[g]? = some gb) (hyl : y.stack.length = 16) (ha2 : ia < 16) (hj2 : ib < 16) :
    Calls PP 247 (bxA X) w (CPost w0 S0 b X ⟨2, ia, ib, ic⟩ ad gb p g L.pb σ { cm with value := 0, fault := true } 5) := by
  refine calls_denD (fn := Tryz.f247) (args := [_, _, _, _, _, _, _, _]) Tryz.func247 rfl (by simp) (fun R hR => ?_)
  refine RUN.ld (Q.blk 19 rfl) rfl (show _ = some (i64 2) from rfl) ?_
  refine CEq.no (by omega) ?_
  refine CEq.no (by omega) ?_
  refine CEq.yes (rfl) ?_
  refine RUN.ld (Q.blk 22 rfl) rfl (rfl) ?_
  refine RUN.ld (Q.blk 23 rfl) rfl (rfl) ?_
  refine RUN.ld (Q.blk 21 rfl) rfl (rfl) ?_
  refine RUN.lda (vs := [i64 2, i64 ia, i64 ib, i64 ic]) (Q.blk 19 rfl) rfl (Nat.le_of_ble_eq_true rfl) rfl ?_
  refine CALL.by (data_fault Q hn hy hgb hyl rfl rfl ha2 hj2) rfl ?_
  rintro e w1 ⟨rfl, x1⟩
  have Q1 := Q.ext x1
  refine ⟨by simp, rfl, (dec2_bad (Q1.blk 17 rfl) (Q1.blk 18 rfl) (Q1.bne 17 18 rfl rfl (by decide))).mono ?_⟩
  rintro e u' w5 ⟨rfl, rfl, w2, w3, w4, x2, u3, u4, u5⟩
  have Q5 := (((Q1.ext x2).st 17 rfl u3).st 17 rfl u4).st 18 rfl u5
  exact hR _ _ ⟨rfl, L, S, rfl, Q5⟩
end
end Go.E
end
