/- What an instruction does that turns the way. -/
import Derived.Test.YtnbekdcepnfpaaaGreatDoorG21
set_option linter.unusedVariables false
set_option linter.unusedSimpArgs false
set_option maxRecDepth 10000
noncomputable section
namespace Go.E
open Go Go.Proofs

theorem gorC_pc {y : Gor} (k : Nat) : (gorC y).set 1 (i64 k) = gorC { y with pc := k } := rfl
theorem gorC_count {y : Gor} (k : Nat) : (gorC y).set 2 (i64 k) = gorC { y with count := k } := rfl
/-- What a call makes of a machine beside boxes. -/
def BPost (w0 : World) (S0 : Nat → Prop) (b : Nat) (bx : List Cmp) (pbs : List Nat) (σ' : MS) (v : Value) : Ending → World → Prop :=
  fun e w' => e = .returned v ∧ ∃ L' S', L'.pb = pbs ∧ Rn w0 S0 w' S' (mP b σ' L' ++ bx)
section
variable {w0 w : World} {S0 S : Nat → Prop} {b : Nat} {σ : MS} {L : ML} {bx : List Cmp} {p g gb : Nat} {y : Gor} {ia ib ic : Int}
theorem control_spawn {a j : Nat} (Q : Rn w0 S0 w S (mP b σ L ++ bx)) (hy : σ.gs[g]? = some y) (hgb : L.gb[g]? = some gb) (hyl : y.stack.length = 16) (ha : ia = a) (hj : ib = j) (hj2 : j < 16)
    (hl : σ.st.length < 1024) (hgl : σ.gs.length = σ.st.length) (hrow : p < σ.rows.length) (hcl : σ.common.length ≤ 2 ^ 30) (hph : σ.ph.phase ≠ 1) :
    Calls PP 252 #[pt b, i64 p, pt gb, .agg #[i64 8, i64 ia, i64 ib, i64 ic]] w (BPost w0 S0 b bx L.pb (spawnF σ p a (stk y j)) (i64 σ.st.length)) := by
  subst ha hj
  refine calls_den (fn := Tryz.f252) (args := [_, _, _, _]) Tryz.func252 rfl (by simp) (fun R hR => ?_)
  refine RUN.box (fun b6 w1 n1 => ?_)
  refine RUN.box (fun b7 w2 n2 => ?_)
  have Q2 := (Q.ext n1.ext).ext n2.ext
  have f6 := n2.at n1.here
  have f7 := n2.here
  refine RUN.ld f7 rfl (rfl) ?_
  refine CEq.yes (rfl) ?_
  refine DRAW.q 11 (qs 11 0) (by kernel_rfl) (fun _ _ _ _ _ h => h) ?_
  refine RUNQ.ld f7 rfl (rfl) ?_
  refine RUNQ.ld f6 rfl (rfl) ?_
  refine RUNQ.ld f7 rfl (rfl) ?_
  refine BD.mk (3 + j * 1) (by first | exact ⟨by decide, by decide, rfl⟩ | exact ⟨by omega, by omega, by omega⟩) ?_
  refine RUNQ.ld (v := i64 (stk y j)) (Q2.bgor hy hgb) rfl (gorC_get hyl hj2 (by omega)) ?_
  intro w3 x3
  obtain ⟨Sm, hM, cl⟩ := (Q2.ext x3).bm
  refine CALL.by (mspawn_in hM rfl rfl hl hgl hrow hcl hph) rfl ?_
  rintro e w4 ⟨rfl, ⟨L', e4, m4⟩, c4⟩
  obtain ⟨S', Q4⟩ := cl c4 m4
  refine CLt.no (by omega) ?_
  exact hR _ _ ⟨rfl, L', S', e4, Q4⟩
theorem control_full {a j : Nat} (Q : Rn w0 S0 w S (mP b σ L ++ bx)) (hy : σ.gs[g]? = some y) (hgb : L.gb[g]? = some gb) (hyl : y.stack.length = 16) (ha : ia = a) (hj : ib = j) (hj2 : j < 16) (hl : σ.st.length = 1024) :
    Calls PP 252 #[pt b, i64 p, pt gb, .agg #[i64 8, i64 ia, i64 ib, i64 ic]] w (fun e w' => e = .panicked [faultV] ∧ Ext w w') := by
  subst ha hj
  refine calls_den (fn := Tryz.f252) (args := [_, _, _, _]) Tryz.func252 rfl (by simp) (fun R hR => ?_)
  refine RUN.box (fun b6 w1 n1 => ?_)
  refine RUN.box (fun b7 w2 n2 => ?_)
  have Q2 := (Q.ext n1.ext).ext n2.ext
  have f6 := n2.at n1.here
  have f7 := n2.here
  refine RUN.ld f7 rfl (rfl) ?_
  refine CEq.yes (rfl) ?_
  refine DRAW.q 11 (qs 11 0) (by kernel_rfl) (fun _ _ _ _ _ h => h) ?_
  refine RUNQ.ld f7 rfl (rfl) ?_
  refine RUNQ.ld f6 rfl (rfl) ?_
  refine RUNQ.ld f7 rfl (rfl) ?_
  refine BD.mk (3 + j * 1) (by first | exact ⟨by decide, by decide, rfl⟩ | exact ⟨by omega, by omega, by omega⟩) ?_
  refine RUNQ.ld (v := i64 (stk y j)) (Q2.bgor hy hgb) rfl (gorC_get hyl hj2 (by omega)) ?_
  intro w3 x3
  refine CALL.by (mspawn_full ((Q2.ext x3).bmq) hl) rfl ?_
  rintro e w4 ⟨rfl, x4⟩
  refine CLt.yes (by omega) ?_
  exact hR _ _ ⟨rfl, ((n1.ext.trans' n2.ext).trans' x3).trans' x4⟩
theorem control_wake0 {a : Nat} (Q : Rn w0 S0 w S (mP b σ L ++ bx)) (ha : ia = a) (ha2 : a < 32) (hr : σ.waits[a]? = some []) :
    Calls PP 252 #[pt b, i64 p, pt gb, .agg #[i64 12, i64 ia, i64 ib, i64 ic]] w (BPost w0 S0 b bx L.pb σ (i64 (-1))) := by
  subst ha
  refine calls_den (fn := Tryz.f252) (args := [_, _, _, _]) Tryz.func252 rfl (by simp) (fun R hR => ?_)
  refine RUN.box (fun b6 w1 n1 => ?_)
  refine RUN.box (fun b7 w2 n2 => ?_)
  have Q2 := (Q.ext n1.ext).ext n2.ext
  have f7 := n2.here
  refine RUN.ld f7 rfl (rfl) ?_
  refine CEq.no (by omega) ?_
  refine CEq.yes (rfl) ?_
  refine DRAW.q 11 [(0, .q), (1, .q), (2, .q), (3, .q), (4, .q), (5, .q), (6, .s), (7, .q), (8, .q), (9, .q), (10, .q)] (by kernel_rfl) (fun _ _ _ _ _ h => h) ?_
  refine RUNQ.ld (Q2.blk 0 rfl) rfl (rfl) ?_
  refine RUNQ.ld f7 rfl (rfl) ?_
  intro w3 x3 y3
  have Q3 := Q2.ext y3
  refine CALL.by (wake_none (Q3.get 10 rfl) rfl ha2 hr) rfl ?_
  rintro e w4 ⟨rfl, x4⟩
  refine ⟨y3.trans' x4, ?_⟩
  intro w5 x5
  exact hR _ _ ⟨rfl, L, S, rfl, (Q3.ext x4).ext x5⟩
theorem control_wake {a k : Nat} {r : List Int} (Q : Rn w0 S0 w S (mP b σ L ++ bx)) (ha : ia = a) (ha2 : a < 32) (hr : σ.waits[a]? = some ((k : Int) :: r)) (hrl : r.length ≤ 2 ^ 34) (hst : σ.st[k]? = some 3)
    (hrow : p < σ.rows.length) (hcl : σ.common.length ≤ 2 ^ 30) :
    Calls PP 252 #[pt b, i64 p, pt gb, .agg #[i64 12, i64 ia, i64 ib, i64 ic]] w (BPost w0 S0 b bx L.pb (readyF (mvF { σ with waits := σ.waits.set a r } k 1) p k) (i64 k)) := by
  subst ha
  refine calls_den (fn := Tryz.f252) (args := [_, _, _, _]) Tryz.func252 rfl (by simp) (fun R hR => ?_)
  refine RUN.box (fun b6 w1 n1 => ?_)
  refine RUN.box (fun b7 w2 n2 => ?_)
  have Q2 := (Q.ext n1.ext).ext n2.ext
  have f7 := n2.here
  refine RUN.ld f7 rfl (rfl) ?_
  refine CEq.no (by omega) ?_
  refine CEq.yes (rfl) ?_
  refine DRAW.q 11 [(0, .q), (1, .q), (2, .q), (3, .q), (4, .q), (5, .q), (6, .f), (7, .q), (8, .q), (9, .q), (10, .q)] (by kernel_rfl) (fun _ _ _ _ _ h => h) ?_
  refine RUNQ.ld (Q2.blk 0 rfl) rfl (rfl) ?_
  refine RUNQ.ld f7 rfl (rfl) ?_
  intro w3 x3 _
  have Q3 := Q2.ext x3
  obtain ⟨Si, si, hP, cl⟩ := Q3.step 10 rfl
  refine CALL.by (wake_in hP rfl ha2 hr hrl) rfl ?_
  rintro e w4 ⟨rfl, q4, c4⟩
  obtain ⟨S4, Q4, kp4, kn4⟩ := cl (cWt L.wt (σ.waits.set a r)) c4 (Nw.own _ _) q4
  replace Q4 : Rn w0 S0 w4 S4 (mP b { σ with waits := σ.waits.set a r } L ++ bx) := Q4
  intro w5 x5
  have Q5 := Q4.ext x5
  refine RUN.ld (Q5.blk 0 rfl) rfl (rfl) ?_
  obtain ⟨Sj, sj, hQ, cl2⟩ := Q5.step 3 rfl
  refine CALL.by (move_in' rfl hst rfl ⟨by omega, by omega⟩ hQ) rfl ?_
  rintro e w6 ⟨rfl, q6, c6⟩
  obtain ⟨S6, Q6, kp6, kn6⟩ := cl2 (cSt L.st (σ.st.set k 1)) c6 (Own.refl _ _) q6
  replace Q6 : Rn w0 S0 w6 S6 (mP b (mvF { σ with waits := σ.waits.set a r } k 1) L ++ bx) := Q6
  refine RUN.ld (Q6.blk 0 rfl) rfl (rfl) ?_
  obtain ⟨Sk, sk, hS, cl3⟩ := Q6.step 8 rfl
  refine CALL.by (ready_in' (g := k) hS rfl hrow hcl) rfl ?_
  rintro e w7 ⟨rfl, q7, c7⟩
  obtain ⟨S7, Q7, kp7, kn7⟩ := cl3 (cSc L.sc _ _) c7 (Nw.own _ _) q7
  exact hR _ _ ⟨rfl, L, S7, rfl, Q7⟩
theorem control_jump (Q : Rn w0 S0 w S (mP b σ L ++ bx)) (hy : σ.gs[g]? = some y) (hgb : L.gb[g]? = some gb) (hyl : y.stack.length = 16) {a : Nat} (ha : ia = a) :
    Calls PP 252 #[pt b, i64 p, pt gb, .agg #[i64 14, i64 ia, i64 ib, i64 ic]] w (BPost w0 S0 b bx L.pb (setG σ g { y with pc := a }) (i64 0)) := by
  subst ha
  refine calls_den (fn := Tryz.f252) (args := [_, _, _, _]) Tryz.func252 rfl (by simp) (fun R hR => ?_)
  refine RUN.box (fun b6 w1 n1 => ?_)
  refine RUN.box (fun b7 w2 n2 => ?_)
  have Q2 := (Q.ext n1.ext).ext n2.ext
  have f6 := n2.at n1.here
  have f7 := n2.here
  refine RUN.ld f7 rfl (rfl) ?_
  refine CEq.no (by omega) ?_
  refine CEq.no (by omega) ?_
  refine CEq.no (by omega) ?_
  refine CEq.yes (rfl) ?_
  refine RUN.ld f6 rfl (rfl) ?_
  refine RUN.ld f7 rfl (rfl) ?_
  refine RUN.sti (Q2.bgor hy hgb) rfl (by rw [gorC_len hyl]; decide) (fun w3 u3 => ?_)
  have u3' : Upd w2 w3 gb (B (gorC { y with pc := a }) 121) := u3
  exact hR _ _ ⟨rfl, L, S, rfl, Q2.bsetG hgb u3'⟩
theorem control_count {j k : Nat} (Q : Rn w0 S0 w S (mP b σ L ++ bx)) (hy : σ.gs[g]? = some y) (hgb : L.gb[g]? = some gb) (hyl : y.stack.length = 16) (ha : ia = j) (hb : ib = k) (hj : j < 256) (hk : k < 256) :
    Calls PP 252 #[pt b, i64 p, pt gb, .agg #[i64 16, i64 ia, i64 ib, i64 ic]] w (BPost w0 S0 b bx L.pb (setG σ g { y with count := 256 * j + k }) (i64 0)) := by
  subst ha hb
  refine calls_den (fn := Tryz.f252) (args := [_, _, _, _]) Tryz.func252 rfl (by simp) (fun R hR => ?_)
  refine RUN.box (fun b6 w1 n1 => ?_)
  refine RUN.box (fun b7 w2 n2 => ?_)
  have Q2 := (Q.ext n1.ext).ext n2.ext
  have f6 := n2.at n1.here
  have f7 := n2.here
  refine RUN.ld f7 rfl (rfl) ?_
  refine CEq.no (by omega) ?_
  refine CEq.no (by omega) ?_
  refine CEq.no (by omega) ?_
  refine CEq.no (by omega) ?_
  refine CEq.no (by omega) ?_
  refine CEq.yes (rfl) ?_
  refine RUN.ld f6 rfl (rfl) ?_
  refine RUN.ld f7 rfl (rfl) ?_
  refine ART.mul (by omega) (fun r hr => ?_)
  refine RUN.ld f7 rfl (rfl) ?_
  refine ART.add (by omega) (fun r' hr' => ?_)
  refine RUN.sti (Q2.bgor hy hgb) rfl (by rw [gorC_len hyl]; decide) (fun w3 u3 => ?_)
  have e : r' = ((256 * j + k : Nat) : Int) := by rw [hr', hr]; simp
  rw [e] at u3
  have u3' : Upd w2 w3 gb (B (gorC { y with count := 256 * j + k }) 121) := u3
  exact hR _ _ ⟨rfl, L, S, rfl, Q2.bsetG hgb u3'⟩
theorem control_loop {a : Nat} (Q : Rn w0 S0 w S (mP b σ L ++ bx)) (hy : σ.gs[g]? = some y) (hgb : L.gb[g]? = some gb) (hyl : y.stack.length = 16) (ha : ia = a) (hc : y.count < 65536) :
    Calls PP 252 #[pt b, i64 p, pt gb, .agg #[i64 17, i64 ia, i64 ib, i64 ic]] w (BPost w0 S0 b bx L.pb (if 0 < y.count then setG σ g { y with count := y.count - 1, pc := a } else σ) (i64 0)) := by
  subst ha
  refine calls_den (fn := Tryz.f252) (args := [_, _, _, _]) Tryz.func252 rfl (by simp) (fun R hR => ?_)
  refine RUN.box (fun b6 w1 n1 => ?_)
  refine RUN.box (fun b7 w2 n2 => ?_)
  have Q2 := (Q.ext n1.ext).ext n2.ext
  have f6 := n2.at n1.here
  have f7 := n2.here
  refine RUN.ld f7 rfl (rfl) ?_
  refine CEq.no (by omega) ?_
  refine CEq.no (by omega) ?_
  refine CEq.no (by omega) ?_
  refine CEq.no (by omega) ?_
  refine CEq.no (by omega) ?_
  refine CEq.no (by omega) ?_
  refine CEq.yes (rfl) ?_
  refine RUN.ld f6 rfl (rfl) ?_
  refine RUN.ld (Q2.bgor hy hgb) rfl (show _ = some (i64 y.count) from rfl) ?_
  by_cases h0 : 0 < y.count
  · rw [if_pos h0] at hR
    refine CLt.yes (by omega) ?_
    refine RUN.ld f6 rfl (rfl) ?_
    refine RUN.ld (Q2.bgor hy hgb) rfl (show _ = some (i64 y.count) from rfl) ?_
    refine ART.sub (by omega) (fun r hr => ?_)
    refine RUN.sti (Q2.bgor hy hgb) rfl (by rw [gorC_len hyl]; decide) (fun w3 u3 => ?_)
    have e : r = ((y.count - 1 : Nat) : Int) := by omega
    rw [e] at u3
    have u3' : Upd w2 w3 gb (B (gorC { y with count := y.count - 1 }) 121) := u3
    have Q3 := Q2.bsetG hgb u3'
    have hg3 : (setG σ g { y with count := y.count - 1 }).gs[g]? = some { y with count := y.count - 1 } := by simp [setG, (List.getElem?_eq_some_iff.1 hy).1]
    have hb6 : gb ≠ b6 := n1.ne (Q.bgor hy hgb)
    have hb7 : gb ≠ b7 := n2.ne ((Q.ext n1.ext).bgor hy hgb)
    refine RUN.ld (u3'.at f6 (Ne.symm hb6)) rfl (rfl) ?_
    refine RUN.ld (u3'.at f7 (Ne.symm hb7)) rfl (rfl) ?_
    refine RUN.sti (Q3.bgor hg3 hgb) rfl (by rw [gorC_len (by exact hyl)]; decide) (fun w4 u4 => ?_)
    have u4' : Upd w3 w4 gb (B (gorC { y with count := y.count - 1, pc := a }) 121) := u4
    have Q4 := Q3.bsetG hgb u4'
    have e2 : setG (setG σ g { y with count := y.count - 1 }) g { y with count := y.count - 1, pc := a } = setG σ g { y with count := y.count - 1, pc := a } := by
      unfold setG; simp only [List.set_set]
    rw [e2] at Q4
    exact hR _ _ ⟨rfl, L, S, rfl, Q4⟩
  · rw [if_neg h0] at hR
    refine CLt.no (by omega) ?_
    exact hR _ _ ⟨rfl, L, S, rfl, Q2⟩
end
end Go.E
end
/- What an instruction does within a commit. -/
set_option linter.unusedVariables false
set_option linter.unusedSimpArgs false
set_option maxRecDepth 10000
noncomputable section
namespace Go.E
open Go Go.Proofs

section
variable {w0 w : World} {S0 S : Nat → Prop} {b : Nat} {σ : MS} {L : ML} {bx : List Cmp} {p g gb : Nat} {y : Gor} {ia ib ic : Int}
theorem setG_upd {σ : MS} {g : Nat} {y y' : Gor} (hy : σ.gs[g]? = some y) : (setG σ g y').gs[g]? = some y' := by simp [setG, (List.getElem?_eq_some_iff.1 hy).1]
theorem data_move {a j : Nat} (Q : Rn w0 S0 w S (mP b σ L ++ bx)) (hy : σ.gs[g]? = some y) (hgb : L.gb[g]? = some gb) (hyl : y.stack.length = 16) (ha : ia = a) (hj : ib = j) (ha2 : a < 16) (hj2 : j < 16) :
    Calls PP 249 #[pt b, i64 p, pt gb, .agg #[i64 4, i64 ia, i64 ib, i64 ic]] w (BPost w0 S0 b bx L.pb (setG σ g { y with stack := y.stack.set a (stk y j) }) (i64 0)) := by
  subst ha hj
  refine calls_den (fn := Tryz.f249) (args := [_, _, _, _]) Tryz.func249 rfl (by simp) (fun R hR => ?_)
  refine RUN.box (fun b7 w2 n2 => ?_)
  have Q2 := Q.ext n2.ext
  have f7 := n2.here
  refine RUN.ld f7 rfl (rfl) ?_
  refine CEq.no (by omega) ?_
  refine CEq.no (by omega) ?_
  refine CEq.yes (rfl) ?_
  refine DRAW.q 12 (qs 12 0) (by kernel_rfl) (fun _ _ _ _ _ h => h) ?_
  refine RUNQ.ld f7 rfl (rfl) ?_
  refine RUNQ.ld f7 rfl (rfl) ?_
  refine BD.mk (3 + j * 1) (by first | exact ⟨by decide, by decide, rfl⟩ | exact ⟨by omega, by omega, by omega⟩) ?_
  refine RUNQ.ld (v := i64 (stk y j)) (Q2.bgor hy hgb) rfl (gorC_get hyl hj2 (by omega)) ?_
  intro w3 x3
  have Q3 := Q2.ext x3
  refine BD.mk (3 + a * 1) (by first | exact ⟨by decide, by decide, rfl⟩ | exact ⟨by omega, by omega, by omega⟩) ?_
  refine RUN.sti (Q3.bgor hy hgb) rfl (by rw [gorC_len hyl]; omega) (fun w4 u4 => ?_)
  rw [gorC_set hyl ha2 (stk y j) (by omega)] at u4
  exact hR _ _ ⟨rfl, L, S, rfl, Q3.bsetG hgb u4⟩
theorem data_nil {a : Nat} (Q : Rn w0 S0 w S (mP b σ L ++ bx)) (hy : σ.gs[g]? = some y) (hgb : L.gb[g]? = some gb) (hyl : y.stack.length = 16) (ha : ia = a) (ha2 : a < 16) :
    Calls PP 249 #[pt b, i64 p, pt gb, .agg #[i64 5, i64 ia, i64 ib, i64 ic]] w (BPost w0 S0 b bx L.pb (setG σ g { y with stack := y.stack.set a 0 }) (i64 0)) := by
  subst ha
  refine calls_den (fn := Tryz.f249) (args := [_, _, _, _]) Tryz.func249 rfl (by simp) (fun R hR => ?_)
  refine RUN.box (fun b7 w2 n2 => ?_)
  have Q2 := Q.ext n2.ext
  have f7 := n2.here
  refine RUN.ld f7 rfl (rfl) ?_
  refine CEq.no (by omega) ?_
  refine CEq.no (by omega) ?_
  refine CEq.no (by omega) ?_
  refine CEq.yes (rfl) ?_
  refine DRAW.q 5 (qs 5 0) (by kernel_rfl) (fun _ _ _ _ _ h => h) ?_
  refine RUNQ.ld f7 rfl (rfl) ?_
  intro w3 x3
  have Q3 := Q2.ext x3
  refine BD.mk (3 + a * 1) (by first | exact ⟨by decide, by decide, rfl⟩ | exact ⟨by omega, by omega, by omega⟩) ?_
  refine RUN.sti (Q3.bgor hy hgb) rfl (by rw [gorC_len hyl]; omega) (fun w4 u4 => ?_)
  rw [gorC_set hyl ha2 0 (by omega)] at u4
  exact hR _ _ ⟨rfl, L, S, rfl, Q3.bsetG hgb u4⟩
end

theorem Rn.bne {w0 w : World} {S0 S : Nat → Prop} {Ps : List Cmp} {x y : Nat} {o o' : Obj} (Q : Rn w0 S0 w S Ps) (i j : Nat) (hi : Ps[i]? = some (cAt x o)) (hj : Ps[j]? = some (cAt y o')) (hij : i ≠ j) : x ≠ y := by
  obtain ⟨col, hs⟩ := Q.sd
  rintro rfl
  exact hij ((hs i _ hi).1.2.symm.trans (hs j _ hj).1.2)
/-- The boxes of a commit. -/
structure Bx where (c t i a y m p g e : Nat)
def bxP (X : Bx) (cm : Cmt) (to : Int) (i : In) (ad : Int) (yb b p g : Nat) : List Cmp :=
  [cAt X.c (B (cmC cm) 53), cAt X.t (B [i64 to] 3), cAt X.i (B (inC i) 33), cAt X.a (B [i64 ad] 3), cAt X.y (B [pt yb] 118), cAt X.m (B [pt b] 35), cAt X.p (B [i64 p] 3), cAt X.g (B [i64 g] 3), cAt X.e (B [i64 0, i64 0, i64 0] 58)]
def bxA (X : Bx) : Array Value := #[pt X.c, pt X.t, pt X.i, pt X.a, pt X.y, pt X.m, pt X.p, pt X.g]
def CPost (w0 : World) (S0 : Nat → Prop) (b : Nat) (X : Bx) (i : In) (ad : Int) (yb p g : Nat) (pbs : List Nat) (σ' : MS) (cm : Cmt) (to : Int) : Ending → World → Prop :=
  fun e w' => e = .returned (.tuple #[]) ∧ ∃ L' S', L'.pb = pbs ∧ Rn w0 S0 w' S' (mP b σ' L' ++ bxP X cm to i ad yb b p g)
section
variable {w0 w : World} {S0 S : Nat → Prop} {b : Nat} {σ : MS} {L : ML} {X : Bx} {cm : Cmt} {to ad : Int} {p g gb : Nat} {y : Gor} {ia ib ic : Nat}
theorem clo_end (Q : Rn w0 S0 w S (mP b σ L ++ bxP X cm to ⟨0, ia, ib, ic⟩ ad gb b p g)) : Calls PP 247 (bxA X) w (CPost w0 S0 b X ⟨0, ia, ib, ic⟩ ad gb p g L.pb σ cm 5) := by
  refine calls_denD (fn := Tryz.f247) (args := [_, _, _, _, _, _, _, _]) Tryz.func247 rfl (by simp) (fun R hR => ?_)
  refine RUN.ld (Q.blk 19 rfl) rfl (rfl) ?_
  refine CEq.yes (rfl) ?_
  refine RUN.sti (Q.blk 18 rfl) rfl (by simp) (fun w1 u1 => ?_)
  have Q1 := Q.st 18 rfl u1
  refine ⟨by simp, rfl, (dec2_ok w1).mono ?_⟩
  rintro e u' w2 ⟨rfl, rfl, x2⟩
  exact hR _ _ ⟨rfl, L, S, rfl, Q1.ext x2⟩
theorem clo_yield (Q : Rn w0 S0 w S (mP b σ L ++ bxP X cm to ⟨9, ia, ib, ic⟩ ad gb b p g)) : Calls PP 247 (bxA X) w (CPost w0 S0 b X ⟨9, ia, ib, ic⟩ ad gb p g L.pb σ cm 1) := by
  refine calls_denD (fn := Tryz.f247) (args := [_, _, _, _, _, _, _, _]) Tryz.func247 rfl (by simp) (fun R hR => ?_)
  refine RUN.ld (Q.blk 19 rfl) rfl (show _ = some (i64 9) from rfl) ?_
  refine CEq.no (by omega) ?_
  refine CEq.no (by omega) ?_
  refine CEq.no (by omega) ?_
  refine CEq.no (by omega) ?_
  refine CEq.no (by omega) ?_
  refine CEq.no (by omega) ?_
  refine CEq.no (by omega) ?_
  refine CEq.no (by omega) ?_
  refine CEq.yes (rfl) ?_
  refine RUN.sti (Q.blk 18 rfl) rfl (by simp) (fun w1 u1 => ?_)
  have Q1 := Q.st 18 rfl u1
  refine ⟨by simp, rfl, (dec2_ok w1).mono ?_⟩
  rintro e u' w2 ⟨rfl, rfl, x2⟩
  exact hR _ _ ⟨rfl, L, S, rfl, Q1.ext x2⟩
theorem clo_wait {row : List Int} (Q : Rn w0 S0 w S (mP b σ L ++ bxP X cm to ⟨11, ia, ib, ic⟩ ad gb b p g)) (ha : ia < 32) (hr : σ.waits[ia]? = some row) (hl : ∀ l ∈ σ.waits, l.length ≤ 2 ^ 35) (hg : ∀ l ∈ σ.waits, (g : Int) ∉ l) :
    Calls PP 247 (bxA X) w (CPost w0 S0 b X ⟨11, ia, ib, ic⟩ ad gb p g L.pb { σ with waits := σ.waits.set ia (row ++ [(g : Int)]) } cm 3) := by
  refine calls_denD (fn := Tryz.f247) (args := [_, _, _, _, _, _, _, _]) Tryz.func247 rfl (by simp) (fun R hR => ?_)
  refine RUN.ld (Q.blk 19 rfl) rfl (show _ = some (i64 11) from rfl) ?_
  refine CEq.no (by omega) ?_
  refine CEq.no (by omega) ?_
  refine CEq.no (by omega) ?_
  refine CEq.no (by omega) ?_
  refine CEq.no (by omega) ?_
  refine CEq.no (by omega) ?_
  refine CEq.no (by omega) ?_
  refine CEq.no (by omega) ?_
  refine CEq.no (by omega) ?_
  refine CEq.no (by omega) ?_
  refine CEq.yes (rfl) ?_
  refine DRAW.cut (X := Unit) (fun _ => [(0, pt X.c), (1, pt X.t), (2, pt X.i), (3, pt X.a), (4, pt X.y), (5, pt X.m), (6, pt X.p), (7, pt X.g)]) (fun _ w' => ∃ S2, Rn w0 S0 w' S2 (mP b { σ with waits := σ.waits.set ia (row ++ [(g : Int)]) } L ++ bxP X cm to ⟨11, ia, ib, ic⟩ ad gb b p g)) ?_ ?_
  · refine DRAW.q 7 (qs 7 0) (by kernel_rfl) (fun _ _ _ _ _ h => absurd h.1 (by simp)) ?_
    refine RUNQ.ld (Q.blk 22 rfl) rfl (rfl) ?_
    refine RUNQ.ld (Q.blk 0 rfl) rfl (rfl) ?_
    refine RUNQ.ld (Q.blk 19 rfl) rfl (show _ = some (i64 ia) from rfl) ?_
    refine RUNQ.ld (Q.blk 24 rfl) rfl (rfl) ?_
    intro w1 x1
    have Q1 := Q.ext x1
    obtain ⟨Si, si, hP, cl⟩ := Q1.step 10 rfl
    refine CALL.by (wait_in hP rfl ha hr hl hg) rfl ?_
    rintro e w2 ⟨rfl, q2, c2⟩
    obtain ⟨S2, Q2, kp2, kn2⟩ := cl (cWt L.wt (σ.waits.set ia (row ++ [(g : Int)]))) c2 (Nw.own _ _) q2
    exact ⟨rfl, rfl, (), ⟨rfl, rfl, rfl, rfl, rfl, rfl, rfl, rfl, trivial⟩, S2, Q2⟩
  rintro ⟨⟩ w2 ⟨S2, Q2⟩ j2
  refine RUN.sti (Q2.blk 18 rfl) rfl (by simp) (fun w3 u3 => ?_)
  have Q3 := Q2.st 18 rfl u3
  refine ⟨by simp, rfl, (dec2_ok w3).mono ?_⟩
  rintro e u' w4 ⟨rfl, rfl, x4⟩
  exact hR _ _ ⟨rfl, L, S2, rfl, Q3.ext x4⟩
theorem clo_control {op : Nat} {σ' : MS} {v : Int} (Q : Rn w0 S0 w S (mP b σ L ++ bxP X cm to ⟨op, ia, ib, ic⟩ ad gb b p g)) (ho : 12 ≤ op ∨ op = 8)
    (hc : Calls PP 252 #[pt b, i64 p, pt gb, .agg #[i64 op, i64 ia, i64 ib, i64 ic]] w (BPost w0 S0 b (bxP X cm to ⟨op, ia, ib, ic⟩ ad gb b p g) L.pb σ' (i64 v))) :
    Calls PP 247 (bxA X) w (CPost w0 S0 b X ⟨op, ia, ib, ic⟩ ad gb p g L.pb σ' { cm with value := v } to) := by
  refine calls_denD (fn := Tryz.f247) (args := [_, _, _, _, _, _, _, _]) Tryz.func247 rfl (by simp) (fun R hR => ?_)
  refine RUN.ld (Q.blk 19 rfl) rfl (show _ = some (i64 op) from rfl) ?_
  refine CEq.no (by omega) ?_
  refine CEq.no (by omega) ?_
  refine CEq.no (by omega) ?_
  refine CEq.no (by omega) ?_
  refine CEq.no (by omega) ?_
  refine CEq.no (by omega) ?_
  refine CEq.no (by omega) ?_
  refine CEq.no (by omega) ?_
  refine CEq.no (by omega) ?_
  refine CEq.no (by omega) ?_
  refine CEq.no (by omega) ?_
  refine RUN.ld (Q.blk 22 rfl) rfl (rfl) ?_
  refine RUN.ld (Q.blk 23 rfl) rfl (rfl) ?_
  refine RUN.ld (Q.blk 21 rfl) rfl (rfl) ?_
  refine RUN.lda (vs := [i64 op, i64 ia, i64 ib, i64 ic]) (Q.blk 19 rfl) rfl (Nat.le_of_ble_eq_true rfl) rfl ?_
  refine CALL.by (hc) rfl ?_
  rintro e w1 ⟨rfl, L', S', e1, Q1⟩
  refine RUN.sti (Q1.blk 17 rfl) rfl (by simp [cmC]) (fun w2 u2 => ?_)
  have Q2 := Q1.st 17 rfl u2
  refine ⟨by simp, rfl, (dec2_ok w2).mono ?_⟩
  rintro e u' w3 ⟨rfl, rfl, x3⟩
  exact hR _ _ ⟨rfl, L', S', e1, Q2.ext x3⟩
theorem clo_fault {op : Nat} (Q : Rn w0 S0 w S (mP b σ L ++ bxP X cm to ⟨op, ia, ib, ic⟩ ad gb b p g)) (ho : 12 ≤ op ∨ op = 8)
    (hc : Calls PP 252 #[pt b, i64 p, pt gb, .agg #[i64 op, i64 ia, i64 ib, i64 ic]] w (fun e w' => e = .panicked [faultV] ∧ Ext w w')) :
    Calls PP 247 (bxA X) w (CPost w0 S0 b X ⟨op, ia, ib, ic⟩ ad gb p g L.pb σ { cm with value := 0, fault := true } 5) := by
  refine calls_denD (fn := Tryz.f247) (args := [_, _, _, _, _, _, _, _]) Tryz.func247 rfl (by simp) (fun R hR => ?_)
  refine RUN.ld (Q.blk 19 rfl) rfl (show _ = some (i64 op) from rfl) ?_
  refine CEq.no (by omega) ?_
  refine CEq.no (by omega) ?_
  refine CEq.no (by omega) ?_
  refine CEq.no (by omega) ?_
  refine CEq.no (by omega) ?_
  refine CEq.no (by omega) ?_
  refine CEq.no (by omega) ?_
  refine CEq.no (by omega) ?_
  refine CEq.no (by omega) ?_
  refine CEq.no (by omega) ?_
  refine CEq.no (by omega) ?_
  refine RUN.ld (Q.blk 22 rfl) rfl (rfl) ?_
  refine RUN.ld (Q.blk 23 rfl) rfl (rfl) ?_
  refine RUN.ld (Q.blk 21 rfl) rfl (rfl) ?_
  refine RUN.lda (vs := [i64 op, i64 ia, i64 ib, i64 ic]) (Q.blk 19 rfl) rfl (Nat.le_of_ble_eq_true rfl) rfl ?_
  refine CALL.by (hc) rfl ?_
  rintro e w1 ⟨rfl, x1⟩
  have Q1 := Q.ext x1
  refine ⟨by simp, rfl, (dec2_bad (Q1.blk 17 rfl) (Q1.blk 18 rfl) (Q1.bne 17 18 rfl rfl (by decide))).mono ?_⟩
  rintro e u' w5 ⟨rfl, rfl, w2, w3, w4, x2, u3, u4, u5⟩
  have Q5 := (((Q1.ext x2).st 17 rfl u3).st 17 rfl u4).st 18 rfl u5
  exact hR _ _ ⟨rfl, L, S, rfl, Q5⟩
theorem clo_data {op : Nat} {σ' : MS} {v : Int} (Q : Rn w0 S0 w S (mP b σ L ++ bxP X cm to ⟨op, ia, ib, ic⟩ ad gb b p g)) (ho : 2 ≤ op ∧ op ≤ 7)
    (hc : Calls PP 249 #[pt b, i64 p, pt gb, .agg #[i64 op, i64 ia, i64 ib, i64 ic]] w (BPost w0 S0 b (bxP X cm to ⟨op, ia, ib, ic⟩ ad gb b p g) L.pb σ' (i64 v))) :
    Calls PP 247 (bxA X) w (CPost w0 S0 b X ⟨op, ia, ib, ic⟩ ad gb p g L.pb σ' { cm with value := v } to) := by
  refine calls_denD (fn := Tryz.f247) (args := [_, _, _, _, _, _, _, _]) Tryz.func247 rfl (by simp) (fun R hR => ?_)
  obtain ⟨ho1, ho2⟩ := ho
  have hk : op = 2 ∨ op = 3 ∨ op = 4 ∨ op = 5 ∨ op = 6 ∨ op = 7 := by omega
  refine RUN.ld (Q.blk 19 rfl) rfl (show _ = some (i64 op) from rfl) ?_
  refine CEq.no (by omega) ?_
  refine CEq.no (by omega) ?_
  by_cases h2 : op = 2
  · refine CEq.yes (by omega) ?_
    refine RUN.ld (Q.blk 22 rfl) rfl (rfl) ?_
    refine RUN.ld (Q.blk 23 rfl) rfl (rfl) ?_
    refine RUN.ld (Q.blk 21 rfl) rfl (rfl) ?_
    refine RUN.lda (vs := [i64 op, i64 ia, i64 ib, i64 ic]) (Q.blk 19 rfl) rfl (Nat.le_of_ble_eq_true rfl) rfl ?_
    refine CALL.by (hc) rfl ?_
    rintro e w1 ⟨rfl, L', S', e1, Q1⟩
    refine RUN.sti (Q1.blk 17 rfl) rfl (by simp [cmC]) (fun w2 u2 => ?_)
    have Q2 := Q1.st 17 rfl u2
    refine ⟨by simp, rfl, (dec2_ok w2).mono ?_⟩
    rintro e u' w3 ⟨rfl, rfl, x3⟩
    exact hR _ _ ⟨rfl, L', S', e1, Q2.ext x3⟩
  · refine CEq.no (by omega) ?_
    by_cases h3 : op = 3
    · refine CEq.yes (by omega) ?_
      refine RUN.ld (Q.blk 22 rfl) rfl (rfl) ?_
      refine RUN.ld (Q.blk 23 rfl) rfl (rfl) ?_
      refine RUN.ld (Q.blk 21 rfl) rfl (rfl) ?_
      refine RUN.lda (vs := [i64 op, i64 ia, i64 ib, i64 ic]) (Q.blk 19 rfl) rfl (Nat.le_of_ble_eq_true rfl) rfl ?_
      refine CALL.by (hc) rfl ?_
      rintro e w1 ⟨rfl, L', S', e1, Q1⟩
      refine RUN.sti (Q1.blk 17 rfl) rfl (by simp [cmC]) (fun w2 u2 => ?_)
      have Q2 := Q1.st 17 rfl u2
      refine ⟨by simp, rfl, (dec2_ok w2).mono ?_⟩
      rintro e u' w3 ⟨rfl, rfl, x3⟩
      exact hR _ _ ⟨rfl, L', S', e1, Q2.ext x3⟩
    · refine CEq.no (by omega) ?_
      by_cases h4 : op = 4
      · refine CEq.yes (by omega) ?_
        refine RUN.ld (Q.blk 22 rfl) rfl (rfl) ?_
        refine RUN.ld (Q.blk 23 rfl) rfl (rfl) ?_
        refine RUN.ld (Q.blk 21 rfl) rfl (rfl) ?_
        refine RUN.lda (vs := [i64 op, i64 ia, i64 ib, i64 ic]) (Q.blk 19 rfl) rfl (Nat.le_of_ble_eq_true rfl) rfl ?_
        refine CALL.by (hc) rfl ?_
        rintro e w1 ⟨rfl, L', S', e1, Q1⟩
        refine RUN.sti (Q1.blk 17 rfl) rfl (by simp [cmC]) (fun w2 u2 => ?_)
        have Q2 := Q1.st 17 rfl u2
        refine ⟨by simp, rfl, (dec2_ok w2).mono ?_⟩
        rintro e u' w3 ⟨rfl, rfl, x3⟩
        exact hR _ _ ⟨rfl, L', S', e1, Q2.ext x3⟩
      · refine CEq.no (by omega) ?_
        by_cases h5 : op = 5
        · refine CEq.yes (by omega) ?_
          refine RUN.ld (Q.blk 22 rfl) rfl (rfl) ?_
          refine RUN.ld (Q.blk 23 rfl) rfl (rfl) ?_
          refine RUN.ld (Q.blk 21 rfl) rfl (rfl) ?_
          refine RUN.lda (vs := [i64 op, i64 ia, i64 ib, i64 ic]) (Q.blk 19 rfl) rfl (Nat.le_of_ble_eq_true rfl) rfl ?_
          refine CALL.by (hc) rfl ?_
          rintro e w1 ⟨rfl, L', S', e1, Q1⟩
          refine RUN.sti (Q1.blk 17 rfl) rfl (by simp [cmC]) (fun w2 u2 => ?_)
          have Q2 := Q1.st 17 rfl u2
          refine ⟨by simp, rfl, (dec2_ok w2).mono ?_⟩
          rintro e u' w3 ⟨rfl, rfl, x3⟩
          exact hR _ _ ⟨rfl, L', S', e1, Q2.ext x3⟩
        · refine CEq.no (by omega) ?_
          by_cases h6 : op = 6
          · refine CEq.yes (by omega) ?_
            refine RUN.ld (Q.blk 22 rfl) rfl (rfl) ?_
            refine RUN.ld (Q.blk 23 rfl) rfl (rfl) ?_
            refine RUN.ld (Q.blk 21 rfl) rfl (rfl) ?_
            refine RUN.lda (vs := [i64 op, i64 ia, i64 ib, i64 ic]) (Q.blk 19 rfl) rfl (Nat.le_of_ble_eq_true rfl) rfl ?_
            refine CALL.by (hc) rfl ?_
            rintro e w1 ⟨rfl, L', S', e1, Q1⟩
            refine RUN.sti (Q1.blk 17 rfl) rfl (by simp [cmC]) (fun w2 u2 => ?_)
            have Q2 := Q1.st 17 rfl u2
            refine ⟨by simp, rfl, (dec2_ok w2).mono ?_⟩
            rintro e u' w3 ⟨rfl, rfl, x3⟩
            exact hR _ _ ⟨rfl, L', S', e1, Q2.ext x3⟩
          · refine CEq.no (by omega) ?_
            refine CEq.yes (by omega) ?_
            refine RUN.ld (Q.blk 22 rfl) rfl (rfl) ?_
            refine RUN.ld (Q.blk 23 rfl) rfl (rfl) ?_
            refine RUN.ld (Q.blk 21 rfl) rfl (rfl) ?_
            refine RUN.lda (vs := [i64 op, i64 ia, i64 ib, i64 ic]) (Q.blk 19 rfl) rfl (Nat.le_of_ble_eq_true rfl) rfl ?_
            refine CALL.by (hc) rfl ?_
            rintro e w1 ⟨rfl, L', S', e1, Q1⟩
            refine RUN.sti (Q1.blk 17 rfl) rfl (by simp [cmC]) (fun w2 u2 => ?_)
            have Q2 := Q1.st 17 rfl u2
            refine ⟨by simp, rfl, (dec2_ok w2).mono ?_⟩
            rintro e u' w3 ⟨rfl, rfl, x3⟩
            exact hR _ _ ⟨rfl, L', S', e1, Q2.ext x3⟩
end
end Go.E
end
