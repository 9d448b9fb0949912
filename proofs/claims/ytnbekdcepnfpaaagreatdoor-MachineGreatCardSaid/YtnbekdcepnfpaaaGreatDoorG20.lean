/- A goroutine is taken. -/
import Derived.Test.YtnbekdcepnfpaaaGreatDoorG19
set_option linter.unusedVariables false
set_option linter.unusedSimpArgs false
set_option maxRecDepth 10000
noncomputable section
namespace Go.E
open Go Go.Proofs

def offB (σ : MS) : Bool := decide (σ.ph.phase = 0)
theorem take_in {w : World} {S : Nat → Prop} {b p : Nat} {σ : MS} {pi v : Int} {x : Prc} {L : ML} (sd : Side w S (mP b σ L)) (hpi : pi = p) (hx : σ.ps[p]? = some x) (hrow : p < σ.rows.length) (hrl : σ.rows.length ≤ 64) (hcl : σ.common.length ≤ 2 ^ 30)
    (hpk : 0 ≤ x.picks ∧ x.picks ≤ 2 ^ 40) (hps : 0 ≤ x.passed ∧ x.passed ≤ 2 ^ 40)
    (hq : ∀ g rows' common', PickR σ.rows σ.common p (tickF (offB σ) x) v g rows' common' → ∃ n : Nat, g = n ∧ σ.st[n]? = some 1 ∧ ∃ y, σ.gs[n]? = some y ∧ y.stack.length = 16) :
    Calls PP 106 #[pt b, i64 pi, i64 v] w (fun e w' => e = .returned (.tuple #[]) ∧ (∃ σ', TakeR σ p v x (offB σ) σ' ∧ Side w' (Nw w S) (mP b σ' L)) ∧ Ch S w w') := by
  obtain ⟨S1, s1, Q⟩ := Rn.start sd
  subst hpi
  obtain ⟨pb, hpb⟩ := Q.pat hx
  obtain ⟨sb, so, pre, post, ha, r1, r2, r3, hpl⟩ := Q.psl hpb
  refine calls_sem (fn := Tryz.f106) (args := [_, _, _]) Tryz.func106 rfl (by simp) (fun R hR => ?_)
  refine SEM.cut (X := Int) 2 (fun t => [(0, pt b), (1, i64 p), (2, i64 v), (6, pt pb), (7, i64 t)])
    (fun t w' => t = tickF (offB σ) x ∧ Rn w S w' S1 (mP b (setP σ p { x with picks := x.picks + 1 }) L)) rfl ?_ ?_
  · refine RUN.ld (Q.blk 0 rfl) rfl ((mC_ps ha)) ?_
    refine BD.mk (so + p * 1) (by first | exact ⟨by decide, by decide, rfl⟩ | exact ⟨by omega, by omega, by omega⟩) ?_
    refine RUN.ld r2 rfl ((app_get r3 (pts_get hpb) rfl)) ?_
    refine RUN.ld (Q.prc hx hpb) rfl (rfl) ?_
    refine ART.add (by omega) (fun r hr => ?_)
    refine RUN.sti (Q.prc hx hpb) rfl (Nat.le_of_ble_eq_true rfl) (fun w1 u1 => ?_)
    subst hr
    have Q1 := Q.setP (x := x) (x' := { x with picks := x.picks + 1 }) hx hpb rfl u1
    have hx1 : (setP σ p { x with picks := x.picks + 1 }).ps[p]? = some { x with picks := x.picks + 1 } := by
      simp [setP, (List.getElem?_eq_some_iff.1 hx).1]
    refine RUN.ld (Q1.prc hx1 hpb) rfl (show _ = some (i64 x.passed) from rfl) ?_
    by_cases hp2 : x.passed < 2
    · refine CLt.yes (hp2) ?_
      refine RUN.ld (Q1.prc hx1 hpb) rfl (show _ = some (i64 (x.picks + 1)) from rfl) ?_
      refine ART.rem (by omega) (by omega) (fun r2 h2 => ?_)
      by_cases hev : (x.picks + 1) % 2 = 0
      · refine CEq.yes (by omega) ?_
        exact ⟨rfl, 61, ⟨rfl, rfl, rfl, rfl, rfl, trivial⟩, by unfold tickF; rw [if_pos ⟨hp2, .inl hev⟩], Q1⟩
      · refine CEq.no (by omega) ?_
        refine RUN.ld (Q1.blk 0 rfl) rfl (rfl) ?_
        refine CALL.by (phase_in (Q1.get 12 rfl)) rfl ?_
        rintro e w2 ⟨rfl, x2⟩
        by_cases ho : σ.ph.phase = 0
        · refine CEq.yes (ho) ?_
          exact ⟨rfl, 61, ⟨rfl, rfl, rfl, rfl, rfl, trivial⟩, by unfold tickF offB; rw [if_pos ⟨hp2, .inr (by simpa using ho)⟩], Q1.ext x2⟩
        · refine CEq.no (ho) ?_
          exact ⟨rfl, 1, ⟨rfl, rfl, rfl, rfl, rfl, trivial⟩, by unfold tickF offB; rw [if_neg (by rintro ⟨_, h | h⟩; exact hev h; exact ho (by simpa using h))], Q1.ext x2⟩
    · refine CLt.no (hp2) ?_
      exact ⟨rfl, 1, ⟨rfl, rfl, rfl, rfl, rfl, trivial⟩, by unfold tickF; rw [if_neg (fun h => hp2 h.1)], Q1⟩
  rintro tick w1 ⟨rfl, Q1⟩ j1
  generalize htk : tickF (offB σ) x = tick
  have hx1 : (setP σ p { x with picks := x.picks + 1 }).ps[p]? = some { x with picks := x.picks + 1 } := by
    simp [setP, (List.getElem?_eq_some_iff.1 hx).1]
  have hrow' : σ.rows[(p : Int).toNat]? = some (row σ p) := by simp [row, List.getD_eq_getElem?_getD, hrow]
  refine SEM.cut (X := Unit) 0 (fun t => [(0, pt b), (1, i64 p), (2, i64 v), (6, pt pb), (7, i64 tick)])
    (fun t w' => Rn w S w' S1 (mP b (setP σ p (pickedP (offB σ) x (row σ p) σ.common)) L)) rfl ?_ ?_
  · refine RUN.ld (Q1.prc hx1 hpb) rfl (show _ = some (i64 x.passed) from rfl) ?_
    refine ART.add (by omega) (fun r hr => ?_)
    refine RUN.sti (Q1.prc hx1 hpb) rfl (Nat.le_of_ble_eq_true rfl) (fun w2 u2 => ?_)
    subst hr
    have Q2 := Q1.setP (x := { x with picks := x.picks + 1 }) (x' := { x with picks := x.picks + 1, passed := x.passed + 1 }) hx1 hpb rfl u2
    have e2 : setP (setP σ p { x with picks := x.picks + 1 }) p { x with picks := x.picks + 1, passed := x.passed + 1 } = setP σ p { x with picks := x.picks + 1, passed := x.passed + 1 } := by
      unfold setP; simp only [List.set_set]
    rw [e2] at Q2
    have hx2 : (setP σ p { x with picks := x.picks + 1, passed := x.passed + 1 }).ps[p]? = some { x with picks := x.picks + 1, passed := x.passed + 1 } := by
      simp [setP, (List.getElem?_eq_some_iff.1 hx).1]
    have zero : ∀ {w3 w4 : World}, Rn w S w3 S1 (mP b (setP σ p { x with picks := x.picks + 1, passed := x.passed + 1 }) L) → (tick = 1 ∨ row σ p = [] ∨ σ.common = []) → Upd w3 w4 pb (B (prcC { x with picks := x.picks + 1, passed := 0 }) 128) → Rn w S w4 S1 (mP b (setP σ p (pickedP (offB σ) x (row σ p) σ.common)) L) := by
      intro w3 w4 Q3 hc u4
      have Q4 := Q3.setP (x := { x with picks := x.picks + 1, passed := x.passed + 1 }) (x' := { x with picks := x.picks + 1, passed := 0 }) hx2 hpb rfl u4
      have e : pickedP (offB σ) x (row σ p) σ.common = { x with picks := x.picks + 1, passed := 0 } := by
        unfold pickedP passF; rw [htk, if_pos hc]
      rw [e]
      have e3 : setP (setP σ p { x with picks := x.picks + 1, passed := x.passed + 1 }) p { x with picks := x.picks + 1, passed := 0 } = setP σ p { x with picks := x.picks + 1, passed := 0 } := by
        unfold setP; simp only [List.set_set]
      rwa [e3] at Q4
    have keep : ¬ (tick = 1 ∨ row σ p = [] ∨ σ.common = []) → pickedP (offB σ) x (row σ p) σ.common = { x with picks := x.picks + 1, passed := x.passed + 1 } := by
      intro hc
      unfold pickedP passF; rw [htk, if_neg hc]
    by_cases ht1 : tick = 1
    · refine CEq.yes (ht1) ?_
      refine RUN.sti (Q2.prc hx2 hpb) rfl (Nat.le_of_ble_eq_true rfl) (fun w3 u3 => ?_)
      exact ⟨rfl, (), ⟨rfl, rfl, rfl, rfl, rfl, trivial⟩, zero Q2 (.inl ht1) u3⟩
    · refine CEq.no (ht1) ?_
      refine RUN.ld (Q2.blk 0 rfl) rfl (rfl) ?_
      refine CALL.by (local_in (Q2.get 8 rfl) (by omega) hrow') rfl ?_
      rintro e w3 ⟨⟨a3, c3, rfl, v3⟩, x3⟩
      have Q3 := Q2.ext x3
      refine LEN.mk ((row σ p).length : Int) (by rw [ints_length]) ?_
      by_cases hl : row σ p = []
      · refine CEq.yes (by rw [hl]; rfl) ?_
        refine RUN.sti (Q3.prc hx2 hpb) rfl (Nat.le_of_ble_eq_true rfl) (fun w4 u4 => ?_)
        exact ⟨rfl, (), ⟨rfl, rfl, rfl, rfl, rfl, trivial⟩, zero Q3 (.inr (.inl hl)) u4⟩
      · have hl2 : 0 < (row σ p).length := List.length_pos_iff.2 hl
        refine CEq.no (by omega) ?_
        refine RUN.ld (Q3.blk 0 rfl) rfl (rfl) ?_
        refine CALL.by (common_in (Q3.get 8 rfl) hcl) rfl ?_
        rintro e w4 ⟨⟨a4, c4, rfl, v4⟩, x4⟩
        have Q4 := Q3.ext x4
        refine LEN.mk (σ.common.length : Int) (by rw [ints_length]; rfl) ?_
        by_cases hc : σ.common = []
        · refine CEq.yes (by rw [hc]; rfl) ?_
          refine RUN.sti (Q4.prc hx2 hpb) rfl (Nat.le_of_ble_eq_true rfl) (fun w5 u5 => ?_)
          exact ⟨rfl, (), ⟨rfl, rfl, rfl, rfl, rfl, trivial⟩, zero Q4 (.inr (.inr hc)) u5⟩
        · have hc2 : 0 < σ.common.length := List.length_pos_iff.2 hc
          refine CEq.no (by omega) ?_
          refine ⟨rfl, (), ⟨rfl, rfl, rfl, rfl, rfl, trivial⟩, ?_⟩
          rw [keep (by rintro (h | h | h); exact ht1 h; exact hl h; exact hc h)]
          exact Q4
  rintro ⟨⟩ w2 Q2 j2
  generalize hxx : pickedP (offB σ) x (row σ p) σ.common = xx at Q2
  have hxl : xx.last = x.last ∧ xx.row = x.row ∧ prcN xx = prcN x := by rw [← hxx]; exact ⟨rfl, rfl, rfl⟩
  have hx2 : (setP σ p xx).ps[p]? = some xx := by simp [setP, (List.getElem?_eq_some_iff.1 hx).1]
  refine SEM.cut (X := Nat × List (List Int) × List Int × Gor) 3 (fun t => [(0, pt b), (1, i64 p), (6, pt pb), (8, i64 t.1)])
    (fun t w' => PickR σ.rows σ.common p tick v t.1 t.2.1 t.2.2.1 ∧ (σ.gs[t.1]? = some t.2.2.2 ∧ t.2.2.2.stack.length = 16) ∧ ∃ S', Rn w S w' S' (mP b (setP { mvF σ t.1 2 with rows := t.2.1, common := t.2.2.1 } p { xx with row := if (t.1 : Int) = xx.last then xx.row else 0 }) L)) rfl ?_ ?_
  · refine RUN.ld (Q2.blk 0 rfl) rfl (rfl) ?_
    obtain ⟨Si, si, hP, cl⟩ := Q2.step 8 rfl
    refine CALL.by (pick_in (v := v) hP (by omega) hrow' (by rw [← htk]; unfold tickF; split <;> decide) hrl hcl) rfl ?_
    rintro e w3 ⟨⟨rfl, e1, e2, q3⟩ | ⟨g, rows', common', hpick, rfl, q3⟩, c3⟩
    · obtain ⟨S3, Q3, kp3, kn3⟩ := cl (cSc L.sc _ _) c3 (Nw.own _ _) q3
      exact hR _ _ ⟨rfl, ⟨_, .none e1 e2, by rw [hxx]; exact Q3.fin⟩, Q3.cc⟩
    · obtain ⟨S3, Q3, kp3, kn3⟩ := cl (cSc L.sc _ _) c3 (Nw.own _ _) q3
      replace Q3 : Rn w S w3 S3 (mP b (setP { σ with rows := rows', common := common' } p xx) L) := Q3
      obtain ⟨n, rfl, hst, y, hy, hyl⟩ := hq g rows' common' (by rw [htk]; exact hpick)
      refine RUN.ld (Q3.blk 0 rfl) rfl (rfl) ?_
      obtain ⟨Sj, sj, hP2, cl2⟩ := Q3.step 3 rfl
      refine CALL.by (move_in' (g := n) rfl hst rfl ⟨by omega, by omega⟩ hP2) rfl ?_
      rintro e w4 ⟨rfl, q4, c4⟩
      obtain ⟨S4, Q4, kp4, kn4⟩ := cl2 (cSt L.st (σ.st.set n 2)) c4 (Own.refl _ _) q4
      replace Q4 : Rn w S w4 S4 (mP b (setP { mvF σ n 2 with rows := rows', common := common' } p xx) L) := Q4
      have hx4 : (setP { mvF σ n 2 with rows := rows', common := common' } p xx).ps[p]? = some xx := hx2
      refine RUN.ld (Q4.prc hx4 hpb) rfl (show _ = some (i64 xx.last) from rfl) ?_
      by_cases hl : (n : Int) = xx.last
      · refine CEq.yes (hl) ?_
        refine ⟨rfl, (n, rows', common', y), ⟨rfl, rfl, rfl, rfl, trivial⟩, hpick, ⟨hy, hyl⟩, S4, ?_⟩
        simp only [if_pos hl]
        exact Q4
      · refine CEq.no (hl) ?_
        refine RUN.sti (Q4.prc hx4 hpb) rfl (Nat.le_of_ble_eq_true rfl) (fun w5 u5 => ?_)
        have Q5 := Q4.setP (x := xx) (x' := { xx with row := 0 }) hx4 hpb rfl u5
        refine ⟨rfl, (n, rows', common', y), ⟨rfl, rfl, rfl, rfl, trivial⟩, hpick, ⟨hy, hyl⟩, S4, ?_⟩
        simp only [if_neg hl]
        unfold setP at Q5 ⊢
        simp only [List.set_set] at Q5
        exact Q5
  · rintro ⟨n, rows', common', y⟩ w3 ⟨hpick, ⟨hy, hyl⟩, S3, Q3⟩ j3
    refine SEM.of ?_
    simp only at hpick hy hyl Q3
    generalize hxr : ({ xx with row := if (n : Int) = xx.last then xx.row else 0 } : Prc) = xr at Q3
    have hx3 : (setP { mvF σ n 2 with rows := rows', common := common' } p xr).ps[p]? = some xr := by simp [setP, mvF, (List.getElem?_eq_some_iff.1 hx).1]
    have hy3 : (setP { mvF σ n 2 with rows := rows', common := common' } p xr).gs[n]? = some y := hy
    obtain ⟨gb, hgb⟩ := Q3.gat hy3
    obtain ⟨tb, to, pre', post', ha', r1', r2', r3', hgl⟩ := Q3.gsl hgb
    refine RUN.ld (Q3.blk 0 rfl) rfl ((mC_gs ha')) ?_
    refine BD.mk (to + n * 1) (by first | exact ⟨by decide, by decide, rfl⟩ | exact ⟨by omega, by omega, by omega⟩) ?_
    refine RUN.ld r2' rfl ((app_get r3' (pts_get hgb) rfl)) ?_
    refine RUN.sti (Q3.prc hx3 hpb) rfl (Nat.le_of_ble_eq_true rfl) (fun w4 u4 => ?_)
    have Q4 := Q3.setP (x := xr) (x' := { xr with g := n }) hx3 hpb rfl u4
    have hx4 : (setP (setP { mvF σ n 2 with rows := rows', common := common' } p xr) p { xr with g := n }).ps[p]? = some { xr with g := (n : Int) } := by simp [setP, mvF, (List.getElem?_eq_some_iff.1 hx).1]
    refine RUN.sti (Q4.prc hx4 hpb) rfl (Nat.le_of_ble_eq_true rfl) (fun w5 u5 => ?_)
    have Q5 := Q4.setP (x := { xr with g := n }) (x' := { xr with g := n, last := n }) hx4 hpb rfl u5
    have hy5 : (setP (setP (setP { mvF σ n 2 with rows := rows', common := common' } p xr) p { xr with g := n }) p { xr with g := n, last := n }).gs[n]? = some y := hy
    refine RUN.sti (Q5.gor hy5 hgb) rfl (by rw [gorC_len hyl]; decide) (fun w6 u6 => ?_)
    have u6' : Upd w5 w6 gb (B (gorC { y with p := p }) 121) := by
      have := u6
      rw [show 0 + 19 = 19 from rfl, gorC_setp hyl] at this
      exact this
    have Q6 := Q5.setG (y' := { y with p := p }) hgb u6'
    refine hR _ _ ⟨rfl, ⟨_, .some (by rw [htk]; exact hpick) hy, ?_⟩, Q6.cc⟩
    have e6 : setG (setP (setP (setP { mvF σ n 2 with rows := rows', common := common' } p xr) p { xr with g := n }) p { xr with g := n, last := n }) n { y with p := p } =
        setG (setP { mvF σ n 2 with rows := rows', common := common' } p (tookP (pickedP (offB σ) x (row σ p) σ.common) n)) n { y with p := p } := by
      unfold setP
      simp only [List.set_set]
      rw [hxx, ← hxr]
      rfl
    rw [← e6]
    exact Q6.fin
end Go.E
end
/- Who waits. -/
set_option linter.unusedVariables false
set_option linter.unusedSimpArgs false
set_option maxRecDepth 10000
noncomputable section
namespace Go.E
open Go Go.Proofs

theorem app_geti {pre post : List Value} {l : List Int} {o j o' : Nat} {v : Int} (hp : pre.length = o) (hj : l[j]? = some v) (ho : o' = o + j * 1) : (pre ++ ints l ++ post)[o']? = some (i64 v) :=
  app_get hp (ints_get hj) ho
theorem short_no {α : Type} : ∀ {n : Nat} {l : List α}, n < l.length → short n l = false
  | 0, _ :: _, _ => rfl
  | n + 1, _ :: l, h => short_no (n := n) (l := l) (by simpa using h)
/-- Where a number stands first. -/
theorem index_in {w : World} {U : Nat → Prop} {a : Option Addr} {c : Nat} {l : List Int} {v : Int} (h : VS w U 3 a c (ints l)) (hl : l.length ≤ 2 ^ 35) :
    Calls PP 182 #[.slice a (ints l).length c, i64 v] w (fun e w' => (∃ k : Int, e = .returned (i64 k) ∧ (0 ≤ k ↔ v ∈ l) ∧ -1 ≤ k ∧ (0 ≤ k → l[k.toNat]? = some v)) ∧ Ext w w') := by
  have hil : (ints l).length = l.length := by simp [ints]
  refine calls_den (fn := Tryz.f182) (args := [_, _]) Tryz.func182 rfl (by simp) (fun R hR => ?_)
  refine LEN.mk (l.length : Int) (by rw [hil]) ?_
  refine LOOP.inv (X := Nat) (fun i => [(0, .slice a (ints l).length c), (1, i64 v), (7, i64 l.length), (8, i64 i)]) (fun i w' => i ≤ l.length ∧ (∀ j : Nat, j < i → l[j]? ≠ some v) ∧ w' = w) (fun i => l.length - i) 0 ⟨rfl, rfl, rfl, rfl, trivial⟩ ⟨Nat.zero_le _, fun j hj => absurd hj (Nat.not_lt_zero _), rfl⟩ ?_
  rintro i _ ⟨hi, hne, rfl⟩ j
  by_cases hq : i < l.length
  · obtain ⟨b, o, pre, post, rfl, r1, r2, r3⟩ := h.open (by omega)
    refine CLt.yes (by omega) ?_
    refine BD.mk (o + i * 1) ⟨by omega, by omega, rfl⟩ ?_
    have hg : l[i]? = some l[i] := List.getElem?_eq_getElem hq
    refine RUN.ld r2 rfl ((app_geti r3 hg rfl)) ?_
    by_cases he : v = l[i]
    · refine CEq.yes (he) ?_
      exact hR _ _ ⟨⟨i, rfl, ⟨fun _ => by rw [he]; exact List.getElem_mem hq, fun _ => by omega⟩, by omega, fun _ => by rw [he]; simp⟩, Ext.refl _⟩
    · refine CEq.no (he) ?_
      refine ART.add (by omega) (fun r hr => ?_)
      refine Nxt.mk (i + 1) ?_ ?_ ?_
      · exact ⟨rfl, rfl, rfl, by subst hr; rfl, trivial⟩
      · refine ⟨hq, fun k hk => ?_, rfl⟩
        rcases Nat.lt_or_eq_of_le (Nat.le_of_lt_succ hk) with hk | rfl
        · exact hne k hk
        · rw [hg]; intro h; cases h; exact he rfl
      · omega
  · refine CLt.no (by omega) ?_
    refine hR _ _ ⟨⟨-1, rfl, ⟨fun h => by omega, fun hm => ?_⟩, by omega, fun h => by omega⟩, Ext.refl _⟩
    obtain ⟨k, hk⟩ := List.getElem?_of_mem hm
    have := (List.getElem?_eq_some_iff.1 hk).1
    exact absurd hk (hne k (by omega))
theorem contains_in {w : World} {U : Nat → Prop} {a : Option Addr} {c : Nat} {l : List Int} {v : Int} (h : VS w U 3 a c (ints l)) (hl : l.length ≤ 2 ^ 35) :
    Calls PP 119 #[.slice a (ints l).length c, i64 v] w (Pure w (.bool (decide (v ∈ l)))) := by
  refine calls_den (fn := Tryz.f119) (args := [_, _]) Tryz.func119 rfl (by simp) (fun R hR => ?_)
  refine CALL.by (index_in h hl) rfl ?_
  rintro e w1 ⟨⟨k, rfl, h1, h2⟩, x1⟩
  by_cases hk : 0 ≤ k
  · refine CLt.no ((by omega)) ?_
    exact hR _ _ ⟨congrArg (fun b => Ending.returned (.bool b)) (decide_eq_true (h1.1 hk)).symm, x1⟩
  · refine CLt.yes ((by omega)) ?_
    exact hR _ _ ⟨congrArg (fun b => Ending.returned (.bool b)) (decide_eq_false (fun h => hk (h1.2 h))).symm, x1⟩
/-- Nobody of that name waits. -/
theorem find_none {w : World} {S : Nat → Prop} {b : Nat} {ws : List (List Int)} {g : Int} (h : WtAt w S b ws) (hl : ∀ l ∈ ws, l.length ≤ 2 ^ 35) (hg : ∀ l ∈ ws, g ∉ l) : Calls PP 308 #[pt b, i64 g] w (Pure w (i64 (-1))) := by
  obtain ⟨rs, hrs, hwl, sd⟩ := h
  have hrl : rs.length = 32 := by rw [← hwl, ← hrs]; simp
  refine calls_den (fn := Tryz.f308) (args := [_, _]) Tryz.func308 rfl (by simp) (fun R hR => ?_)
  refine RUN.lda (vs := wtC rs) (sd.blk 0 rfl) rfl (by simp [wtC, hrl]; decide) (by unfold wtC; exact List.take_of_length_le (by simp [hrl]; decide)) ?_
  conv => whnf
  rw [short_no (by simp [wtC, hrl])]
  refine LOOP.inv (X := Nat) (fun i => [(1, i64 g), (10, .agg (wtC rs).toArray), (11, i64 i)]) (fun i w' => i ≤ 32 ∧ Ext w w') (fun i => 32 - i) 0 ⟨rfl, rfl, rfl, trivial⟩ ⟨Nat.zero_le _, Ext.refl w⟩ ?_
  rintro i w1 ⟨hi, x1⟩ j
  by_cases hq : i < 32
  · have hgi : rs[i]? = some rs[i] := List.getElem?_eq_getElem (by omega)
    generalize rs[i] = r at hgi
    have hm : r.l ∈ ws := by rw [← hrs]; exact List.mem_map_of_mem (List.mem_of_getElem? hgi)
    have hv := (Side.fm.ext sd x1).get (i + 1) (c := cRw r) (by simp [hgi])
    refine CLt.yes (by omega) ?_
    conv => whnf
    rw [short_no (by simp [wtC, hrl])]
    refine RUN.index (n := 32) (esz := 1) (cs := wtC rs) (i := (i : Int)) (v := .slice r.a (ints r.l).length r.c) rfl rfl rfl (by omega) (by unfold wtC; simp [hgi, Rw.v]) ?_
    refine CALL.by (contains_in hv (hl _ hm)) rfl ?_
    rintro e w2 ⟨rfl, x2⟩
    rw [decide_eq_false (hg _ hm)]
    refine ART.add (by omega) (fun r' hr => ?_)
    refine Nxt.mk (i + 1) ?_ ?_ ?_
    · exact ⟨rfl, rfl, by subst hr; rfl, trivial⟩
    · exact ⟨hq, x1.trans' x2⟩
    · omega
  · refine CLt.no (by omega) ?_
    exact hR _ _ ⟨rfl, x1⟩
theorem place_in {x : Int} (w : World) : Calls PP 307 #[i64 x] w (Pure w (.bool (decide (0 ≤ x ∧ x < 32)))) := by
  refine calls_den (fn := Tryz.f307) (args := [_]) Tryz.func307 rfl (by simp) (fun R hR => ?_)
  by_cases h1 : 0 ≤ x
  · by_cases h2 : x < 32
    · refine CLt.no ((by omega)) ?_
      refine CLt.yes (h2) ?_
      exact hR _ _ ⟨congrArg (fun b => Ending.returned (.bool b)) (by simp; omega), Ext.refl w⟩
    · refine CLt.no ((by omega)) ?_
      refine CLt.no (h2) ?_
      exact hR _ _ ⟨congrArg (fun b => Ending.returned (.bool b)) (by simp; omega), Ext.refl w⟩
  · refine CLt.yes ((by omega)) ?_
    exact hR _ _ ⟨congrArg (fun b => Ending.returned (.bool b)) (by simp; omega), Ext.refl w⟩
theorem wtC_set {rs : List Rw} {a : Nat} {r : Rw} {v : Value} (h : v = r.v) : (wtC rs).set a v = wtC (rs.set a r) := by unfold wtC; rw [h, List.map_set]
theorem cons_set' {α β : Type _} {x y : β} {f : α → β} {l : List α} {i : Nat} {r : α} (h : y = f r) : (x :: l.map f).set (i + 1) y = x :: (l.set i r).map f := by rw [h]; exact cons_set
/-- One more waits. -/
theorem wait_in {w : World} {S : Nat → Prop} {b a : Nat} {ai g : Int} {ws : List (List Int)} {row : List Int} (h : WtAt w S b ws) (hai : ai = a) (ha : a < 32) (hr : ws[a]? = some row) (hl : ∀ l ∈ ws, l.length ≤ 2 ^ 35) (hg : ∀ l ∈ ws, g ∉ l) :
    Calls PP 251 #[pt b, i64 ai, i64 g] w (fun e w' => e = .returned (i64 0) ∧ WtAt w' (Nw w S) b (ws.set a (row ++ [g])) ∧ Ch S w w') := by
  have h' := h
  subst hai
  obtain ⟨rs, hrs, hwl, sd⟩ := h
  have hrl : rs.length = 32 := by rw [← hwl, ← hrs]; simp
  obtain ⟨r, hra, rfl⟩ : ∃ r, rs[a]? = some r ∧ r.l = row := by
    rw [← hrs, List.getElem?_map] at hr
    obtain ⟨r, h1, h2⟩ := Option.map_eq_some_iff.1 hr
    exact ⟨r, h1, h2⟩
  have hm : r.l ∈ ws := List.mem_of_getElem? hr
  obtain ⟨ra, rc, rl⟩ := r
  simp only at hr hm
  obtain ⟨S1, s1, Q⟩ := Rn.start sd
  refine calls_den (fn := Tryz.f251) (args := [_, _, _]) Tryz.func251 rfl (by simp) (fun R hR => ?_)
  refine CALL.by (place_in w) rfl ?_
  rintro e w1 ⟨rfl, x1⟩
  rw [decide_eq_true (by omega : 0 ≤ (a : Int) ∧ (a : Int) < 32)]
  refine CALL.by (find_none (WtAt.fm.ext h' x1) hl hg) rfl ?_
  rintro e w2 ⟨rfl, x2⟩
  have Q2 := Q.ext (x1.trans' x2)
  refine CLt.yes (by omega) ?_
  refine DRAW.q 13 [(0, .q), (1, .q), (2, .q), (3, .q), (4, .q), (5, .q), (6, .q), (7, .q), (8, .q), (11, .q), (12, .q), (9, .s), (10, .f)] (by kernel_rfl) (fun _ _ _ _ _ h => h) ?_
  refine BD.mk (0 + a * 1) ⟨by omega, by omega, rfl⟩ ?_
  refine RUNQ.ld (v := .slice ra (ints rl).length rc) (Q2.blk 0 rfl) rfl (by simp [wtC, hra, Rw.v]) ?_
  intro w3 x3 _
  have Q3 := Q2.ext x3
  refine RUN.buildSlice rfl rfl rfl rfl rfl rfl rfl (fun b4 w4 n4 => ?_)
  refine ⟨x3.trans' n4.ext, ?_⟩
  intro w5 x5 _
  obtain ⟨Q4, f4, nf4, lf4⟩ := Q3.fresh n4
  have Q5 := Q4.ext x5
  obtain ⟨Si, si, hP, cl⟩ := Q5.step (a + 1) (c := cRw ⟨ra, rc, rl⟩) (by simp [hra])
  refine RUN.vapp1 (vs := ints rl) (v := i64 g) hP (x5.at f4) rfl rfl rfl rfl rfl rfl (by have := hl _ hm; simp [ints]; omega) rfl (fun a' c' w6 hv hc => ?_)
  obtain ⟨S6', o6, q6⟩ := hv
  obtain ⟨S6, Q6, kp6, kn6⟩ := cl (cVS 3 a' c' (ints rl ++ [i64 g])) hc o6 q6
  have e6 : Rn w S w6 S6 (cAt b (B (wtC rs) 238) :: (rs.set a ⟨a', c', rl ++ [g]⟩).map cRw) := by
    rw [cons_set' (f := cRw) (r := ⟨a', c', rl ++ [g]⟩) (by simp [cRw, ints_app, ints])] at Q6
    exact Q6
  intro w7 x7
  have Q7 := e6.ext x7
  refine BD.mk (0 + a * 1) ⟨by omega, by omega, rfl⟩ ?_
  refine RUN.stl (Q7.blk 0 rfl) rfl (by simp [wtC, hrl]; omega) (fun w8 u8 => ?_)
  have Q8 := Q7.st 0 rfl u8
  refine hR _ _ ⟨rfl, ⟨rs.set a ⟨a', c', rl ++ [g]⟩, by simp [List.map_set, hrs], by simp [hwl], ?_⟩, Q8.cc⟩
  have := Q8.fin
  rw [show (wtC rs).set (0 + a * 1) (.slice a' (ints rl ++ [i64 g]).length c') = wtC (rs.set a ⟨a', c', rl ++ [g]⟩) by rw [Nat.zero_add, Nat.mul_one]; exact wtC_set (by simp [Rw.v, ints])] at this
  exact this
theorem RUNQ.vtail {S : World → Prop} {t e eb b o n c : Nat} {x y : Operand} {ty : TypeId} {K : Value → Prop} (hlen : n + 1 ≤ c) (ht : inTau t = true) (hk : (tau t).k = .slice e 1 eb)
    (k : K (.slice (some ⟨b, (if (c : Int) = 1 then o else o + 1), none⟩) n (c - 1))) : RUNQ S (.slice t x (some y) none none) ty [.slice (some ⟨b, o, none⟩) (n + 1) c, i64 1] K := by
  refine RUNQ.of (v := .slice (some ⟨b, (if (c : Int) = 1 then o else o + 1), none⟩) n (c - 1)) (fun w _ => ?_) k
  refine RUN.slice (some (.i64, 1)) none ht hk rfl rfl rfl hlen (by simp [optV]) (by simp [optV]; omega) (by simp [optV]; omega) (fun o' n' c' h1 h2 h3 => ?_)
  subst h1 h2 h3
  simp [optV]
theorem VS.le {w : World} {S : Nat → Prop} {T c b o : Nat} {vs : List Value} (h : VS w S T (some ⟨b, o, none⟩) c vs) : vs.length ≤ c := by
  obtain ⟨h1, h2⟩ := h
  rcases h2 with ⟨_, h3⟩ | ⟨b', o', cap, pre, post, hv, hs, hat, h3, h4, h5⟩
  · cases h3
  · cases hv; exact h4
theorem VS.tail {w : World} {S : Nat → Prop} {T c b o : Nat} {v : Value} {vs : List Value} (h : VS w S T (some ⟨b, o, none⟩) c (v :: vs)) : VS w S T (some ⟨b, (if (c : Int) = 1 then o else o + 1), none⟩) (c - 1) vs := by
  obtain ⟨h1, h2⟩ := h
  rcases h2 with ⟨_, h3⟩ | ⟨b', o', cap, pre, post, hv, hs, hat, h3, h4, h5⟩
  · cases h3
  · cases hv
    simp at h4
    by_cases hc : c = 1
    · subst hc
      have : vs = [] := List.eq_nil_of_length_eq_zero (by omega)
      subst this
      refine ⟨by simp, .inr ⟨b, o, 0, pre, v :: post, by simp, hs, by simpa using hat, h3, by simp, ?_⟩⟩
      omega
    · refine ⟨by simp, .inr ⟨b, o + 1, c - 1, pre ++ [v], post, by rw [if_neg (by omega)], hs, by simpa using hat, by simp [h3], by omega, ?_⟩⟩
      simp at h5 ⊢
      omega
/-- The first that waits is told; none waits. -/
theorem wake_none {w : World} {S : Nat → Prop} {b a : Nat} {ai : Int} {ws : List (List Int)} (h : WtAt w S b ws) (hai : ai = a) (ha : a < 32) (hr : ws[a]? = some []) :
    Calls PP 310 #[pt b, i64 ai] w (Pure w (.tuple #[i64 0, .bool false])) := by
  subst hai
  obtain ⟨rs, hrs, hwl, sd⟩ := h
  have hrl : rs.length = 32 := by rw [← hwl, ← hrs]; simp
  obtain ⟨r, hra, hr2⟩ : ∃ r, rs[a]? = some r ∧ r.l = [] := by
    rw [← hrs, List.getElem?_map] at hr
    obtain ⟨r, h1, h2⟩ := Option.map_eq_some_iff.1 hr
    exact ⟨r, h1, h2⟩
  obtain ⟨ra, rc, rl⟩ := r
  subst hr2
  refine calls_den (fn := Tryz.f310) (args := [_, _]) Tryz.func310 rfl (by simp) (fun R hR => ?_)
  refine CALL.by (place_in w) rfl ?_
  rintro e w1 ⟨rfl, x1⟩
  rw [decide_eq_true (by omega : 0 ≤ (a : Int) ∧ (a : Int) < 32)]
  have Q1 := Side.fm.ext sd x1
  refine BD.mk (0 + a * 1) ⟨by omega, by omega, rfl⟩ ?_
  refine RUN.ld (v := .slice ra (ints []).length rc) (Q1.blk 0 rfl) rfl (by simp [wtC, hra, Rw.v]) ?_
  refine LEN.mk (0) (by first | rfl | simp [ints] | (simp [ints]; omega)) ?_
  refine CEq.yes (rfl) ?_
  exact hR _ _ ⟨rfl, x1⟩
theorem wake_in {w : World} {S : Nat → Prop} {b a : Nat} {ai g : Int} {ws : List (List Int)} {row : List Int} (h : WtAt w S b ws) (hai : ai = a) (ha : a < 32) (hr : ws[a]? = some (g :: row)) (hl : row.length ≤ 2 ^ 34) :
    Calls PP 310 #[pt b, i64 ai] w (fun e w' => e = .returned (.tuple #[i64 g, .bool true]) ∧ WtAt w' (Nw w S) b (ws.set a row) ∧ Ch S w w') := by
  subst hai
  obtain ⟨rs, hrs, hwl, sd⟩ := h
  have hrl : rs.length = 32 := by rw [← hwl, ← hrs]; simp
  obtain ⟨r, hra, hr2⟩ : ∃ r, rs[a]? = some r ∧ r.l = g :: row := by
    rw [← hrs, List.getElem?_map] at hr
    obtain ⟨r, h1, h2⟩ := Option.map_eq_some_iff.1 hr
    exact ⟨r, h1, h2⟩
  obtain ⟨ra, rc, rl⟩ := r
  subst hr2
  obtain ⟨S1, s1, Q⟩ := Rn.start sd
  refine calls_den (fn := Tryz.f310) (args := [_, _]) Tryz.func310 rfl (by simp) (fun R hR => ?_)
  refine CALL.by (place_in w) rfl ?_
  rintro e w1 ⟨rfl, x1⟩
  rw [decide_eq_true (by omega : 0 ≤ (a : Int) ∧ (a : Int) < 32)]
  have Q1 := Q.ext x1
  have hrow := Q1.get (a + 1) (c := cRw ⟨ra, rc, g :: row⟩) (by simp [hra])
  refine BD.mk (0 + a * 1) ⟨by omega, by omega, rfl⟩ ?_
  refine RUN.ld (v := .slice ra (ints (g :: row)).length rc) (Q1.blk 0 rfl) rfl (by simp [wtC, hra, Rw.v]) ?_
  refine LEN.mk ((row.length + 1 : Int)) (by first | rfl | simp [ints] | (simp [ints]; omega)) ?_
  refine CEq.no (by omega) ?_
  refine BD.mk (0 + a * 1) ⟨by omega, by omega, rfl⟩ ?_
  refine RUN.ld (v := .slice ra (ints (g :: row)).length rc) (Q1.blk 0 rfl) rfl (by simp [wtC, hra, Rw.v]) ?_
  obtain ⟨vb, vo, pre, post, rfl, r1, r2, r3⟩ := hrow.open (by simp [ints])
  refine BD.mk (vo + 0 * 1) ⟨by omega, by simp [ints], rfl⟩ ?_
  refine RUN.ld r2 rfl ((app_geti r3 rfl rfl)) ?_
  have hlc : (ints (g :: row)).length ≤ rc := VS.le hrow
  refine DRAW.q 12 [(0, .q), (1, .q), (2, .q), (3, .q), (4, .q), (5, .q), (6, .q), (7, .q), (8, .q), (10, .q), (11, .q), (9, .s)] (by kernel_rfl) (fun _ _ _ _ _ h => h) ?_
  refine BD.mk (0 + a * 1) ⟨by omega, by omega, rfl⟩ ?_
  refine RUNQ.ld (v := .slice (some ⟨vb, vo, none⟩) (ints (g :: row)).length rc) (Q1.blk 0 rfl) rfl (by simp [wtC, hra, Rw.v]) ?_
  refine RUNQ.vtail (n := (ints row).length) hlc rfl rfl ?_
  intro w3 x3 _
  have Q3 := Q1.ext x3
  have hrow3 := Q3.get (a + 1) (c := cRw ⟨some ⟨vb, vo, none⟩, rc, g :: row⟩) (by simp [hra])
  obtain ⟨Si, si, hP, cl⟩ := Q3.step (a + 1) (c := cRw ⟨some ⟨vb, vo, none⟩, rc, g :: row⟩) (by simp [hra])
  refine CALL.by (clone_in (VS.tail hrow3) (by omega)) rfl ?_
  rintro e w4 ⟨⟨a4, c4, rfl, v4⟩, x4⟩
  refine ⟨x3.trans' x4, ?_⟩
  intro w5 x5
  obtain ⟨S4, Q4, kp4, kn4⟩ := cl (cVS 3 a4 c4 (ints row)) x4.toS (fun y hy => .inr hy) v4
  rw [show cVS 3 a4 c4 (ints row) = cRw ⟨a4, c4, row⟩ from rfl, cons_set' (f := cRw) (r := ⟨a4, c4, row⟩) rfl] at Q4
  have Q5 := Q4.ext x5
  refine BD.mk (0 + a * 1) ⟨by omega, by omega, rfl⟩ ?_
  refine RUN.stl (Q5.blk 0 rfl) rfl (by simp [wtC, hrl]; omega) (fun w6 u6 => ?_)
  have Q6 := Q5.st 0 rfl u6
  refine hR _ _ ⟨rfl, ⟨rs.set a ⟨a4, c4, row⟩, by simp [List.map_set, hrs], by simp [hwl], ?_⟩, Q6.cc⟩
  have := Q6.fin
  rw [show (wtC rs).set (0 + a * 1) (.slice a4 (ints row).length c4) = wtC (rs.set a ⟨a4, c4, row⟩) by rw [Nat.zero_add, Nat.mul_one]; exact wtC_set rfl] at this
  exact this
end Go.E
end
