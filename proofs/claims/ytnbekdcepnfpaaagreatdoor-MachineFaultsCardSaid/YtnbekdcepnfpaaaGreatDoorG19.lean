/- A body in pieces: the ways meet between them. -/
import Derived.Test.YtnbekdcepnfpaaaGreatDoorG17
import Derived.Test.YtnbekdcepnfpaaaGreatDoorG13
import Derived.Test.YtnbekdcepnfpaaaGreatDoorG18
set_option linter.unusedVariables false
set_option linter.unusedSimpArgs false
set_option maxRecDepth 10000
noncomputable section
namespace Go.E
open Go Go.Proofs

/-- A piece of code does so, in whatever frame that holds the same. -/
def SEM (n : Nat) (c : Code) (ρ : Fr) (ds : List Deferred) (w : World) (K : Exit → Fr → List Deferred → World → Prop) : Prop := ∀ a, Rel n ρ a → a.defers = ds → c.wp PP (Lift n K) a w
theorem SEM.of {n : Nat} {c : Code} {ρ : Fr} {ds : List Deferred} {w : World} {K : Exit → Fr → List Deferred → World → Prop} (h : den n c ρ ds w K) : SEM n c ρ ds w K := fun a hr hd => den_sound c K ρ ds w a h hr hd
def splitC : Nat → Code → Option (Code × Code)
  | 0, .seq x y => some (x, y)
  | k + 1, .seq x y => match splitC k y with
    | some r => some (.seq x r.1, r.2)
    | none => none
  | _, _ => none
/-- The post of a piece: the ways meet, or the call is left. -/
def CutP {X : Type} (fr : X → List (Nat × Value)) (P : X → World → Prop) (ds : List Deferred) (K : Exit → Fr → List Deferred → World → Prop) (e : Exit) (ρ' : Fr) (ds' : List Deferred) (w' : World) : Prop :=
  match e with
  | .normal => ds' = ds ∧ ∃ x, agree ρ' (fr x) ∧ P x w'
  | e => K e ρ' ds' w'
theorem cut_sound {n : Nat} {Q : Exit → Act → World → Prop} : ∀ (k : Nat) (c c1 c2 : Code) (K : Exit → Fr → List Deferred → World → Prop), splitC k c = some (c1, c2) →
    (∀ e ρ a w, Rel n ρ a → K e ρ a.defers w → match e with | .normal => c2.wp PP Q a w | e => Q e a w) →
    ∀ (ρ : Fr) (ds : List Deferred) (w : World) (a : Act), den n c1 ρ ds w K → Rel n ρ a → a.defers = ds → c.wp PP Q a w := by
  intro k
  induction k with
  | zero =>
    intro c c1 c2 K hs hK ρ ds w a h hr hd
    cases c <;> simp only [splitC, Option.some.injEq, Prod.mk.injEq, reduceCtorEq] at hs
    obtain ⟨rfl, rfl⟩ := hs
    refine wp_seq (Code.wp_mono (fun e a' w' hq => ?_) (den_sound _ K ρ ds w a h hr hd))
    obtain ⟨ρ', hr', hk⟩ := hq
    have := hK e ρ' a' w' hr' hk
    cases e <;> exact this
  | succ k ih =>
    intro c c1 c2 K hs hK ρ ds w a h hr hd
    cases c <;> simp only [splitC, reduceCtorEq] at hs
    rename_i x y
    cases hy : splitC k y with
    | none => rw [hy] at hs; cases hs
    | some r =>
      rw [hy] at hs
      simp only [Option.some.injEq, Prod.mk.injEq] at hs
      obtain ⟨rfl, rfl⟩ := hs
      obtain ⟨r1, r2⟩ := r
      have h : dSeq (den n x) (den n r1) ρ ds w K := h
      refine wp_seq (Code.wp_mono (fun e a' w' hq => ?_) (den_sound x _ ρ ds w a h hr hd))
      obtain ⟨ρ', hr', hk⟩ := hq
      cases e with
      | normal => exact ih y r1 r2 K hy hK ρ' _ w' a' hk hr' rfl
      | exit i => exact hK _ ρ' a' w' hr' hk
      | goto l => exact hK _ ρ' a' w' hr' hk
      | ret => exact hK _ ρ' a' w' hr' hk
      | panic c => exact hK _ ρ' a' w' hr' hk
      | outgrown => exact hK _ ρ' a' w' hr' hk
theorem SEM.cut {X : Type} (k : Nat) (fr : X → List (Nat × Value)) (P : X → World → Prop) {n : Nat} {c c1 c2 : Code} {ρ : Fr} {ds : List Deferred} {w : World} {K : Exit → Fr → List Deferred → World → Prop} (hs : splitC k c = some (c1, c2))
    (h : den n c1 ρ ds w (CutP fr P ds K)) (hk : ∀ x w', P x w' → ∀ j, SEM n c2 (FR j (fr x)) ds w' K) : SEM n c ρ ds w K := by
  intro a hr hd
  refine cut_sound k c c1 c2 (CutP fr P ds K) hs (fun e ρ' a' w' hr' hq => ?_) ρ ds w a h hr hd
  cases e with
  | normal =>
    obtain ⟨hd', x, ha, hP⟩ := hq
    refine hk x w' hP ρ'.get a' ⟨hr'.size, fun t => ?_⟩ hd'
    rw [hr'.get t]; exact FR_eq ha t
  | exit i => exact ⟨ρ', hr', hq⟩
  | goto l => exact ⟨ρ', hr', hq⟩
  | ret => exact ⟨ρ', hr', hq⟩
  | panic c => exact ⟨ρ', hr', hq⟩
  | outgrown => exact ⟨ρ', hr', hq⟩
theorem calls_sem {f : FuncId} {fn : Func} {c : Code} {args : List Value} {w : World} {Post : Ending → World → Prop}
    (hf : PP.funcs[f]? = some fn) (hb : fn.body = some c) (hn : args.length ≤ fn.ntmps)
    (h : ∀ R : Ending → World → Prop, (∀ e w', Post e w' → R e w') → SEM fn.ntmps c (fr0 args) [] w (Fin fn.results.toList R)) : Calls PP f args.toArray w Post := by
  refine calls_of_wp hf hb ?_
  refine Code.wp_mono (fun e a' w' hq => ?_) (h Post (fun _ _ h => h) _ (rel0 fn.ntmps args hn) rfl)
  obtain ⟨ρ', hr', hk⟩ := hq
  cases hd : a'.defers with
  | cons d ds => rw [hd] at hk; cases e <;> exact hk.elim
  | nil =>
    rw [hd] at hk
    cases e with
    | normal =>
      obtain ⟨vs, h1, h2⟩ := dRes_run hr' _ _ hk
      exact ⟨hd, _, results_run h1, h2⟩
    | ret =>
      obtain ⟨vs, h1, h2⟩ := dRes_run hr' _ _ hk
      exact ⟨hd, _, results_run h1, h2⟩
    | panic c => exact ⟨hd, hk⟩
    | exit i => exact hk.elim
    | goto l => exact hk.elim
    | outgrown => exact hk.elim
end Go.E
end
/- What is asked of a machine. -/
set_option linter.unusedVariables false
set_option linter.unusedSimpArgs false
set_option maxRecDepth 10000
noncomputable section
namespace Go.E
open Go Go.Proofs

theorem phase_in {w : World} {S : Nat → Prop} {b : Nat} {f : PhS} (h : PhAt w S b f) : Calls PP 63 #[pt b] w (Pure w (i64 f.phase)) := by
  obtain ⟨a, c, h⟩ := h
  have h1 := (h.get 0 rfl).2
  refine calls_den (fn := Tryz.f63) (args := [_]) Tryz.func63 rfl (by simp) (fun R hR => ?_)
  refine RUN.ld h1 rfl (rfl) ?_
  exact hR _ _ ⟨rfl, Ext.refl w⟩
theorem cycle_in {w : World} {S : Nat → Prop} {b : Nat} {f : PhS} (h : PhAt w S b f) : Calls PP 64 #[pt b] w (Pure w (i64 f.cycle)) := by
  obtain ⟨a, c, h⟩ := h
  have h1 := (h.get 0 rfl).2
  refine calls_den (fn := Tryz.f64) (args := [_]) Tryz.func64 rfl (by simp) (fun R hR => ?_)
  refine RUN.ld h1 rfl (rfl) ?_
  exact hR _ _ ⟨rfl, Ext.refl w⟩
theorem tmlen_in {w : World} {S : Nat → Prop} {b : Nat} {l : List Tm} (h : TmAt w S b l) : Calls PP 59 #[pt b] w (Pure w (i64 l.length)) := by
  obtain ⟨a, c, made, hm, h⟩ := h
  have h1 := (h.get 0 rfl).2
  refine calls_den (fn := Tryz.f59) (args := [_]) Tryz.func59 rfl (by simp) (fun R hR => ?_)
  refine RUN.ld h1 rfl (rfl) ?_
  refine LEN.mk (l.length : Int) (by simp) ?_
  exact hR _ _ ⟨rfl, Ext.refl w⟩
theorem due_none {w : World} {S : Nat → Prop} {b : Nat} (h : TmAt w S b []) (now : Int) : Calls PP 101 #[pt b, i64 now] w (Pure w nils) := by
  refine calls_den (fn := Tryz.f101) (args := [_, _]) Tryz.func101 rfl (by simp) (fun R hR => ?_)
  refine LOOP.rounds 1 ?_
  refine CALL.by (tmlen_in h) rfl ?_
  rintro e w1 ⟨rfl, x1⟩
  refine CLt.no (by simp) ?_
  exact hR _ _ ⟨rfl, x1⟩
theorem event_in {k g : Int} (w : World) : Calls PP 100 #[i64 k, i64 g] w (Pure w (.agg #[i64 k, i64 g, i64 0])) := by
  refine calls_den (fn := Tryz.f100) (args := [_, _]) Tryz.func100 rfl (by simp) (fun R hR => ?_)
  refine RUN.alloc rfl rfl (fun b1 w1 n1 => ?_)
  refine RUN.sta (vs := [i64 k, i64 g, i64 0]) n1.here rfl (by simp) (by simp [Value.oneCell']) (fun w2 u2 => ?_)
  refine RUN.lda (vs := [i64 k, i64 g, i64 0]) u2.here rfl (Nat.le_of_ble_eq_true rfl) rfl ?_
  exact ⟨rfl, hR _ _ ⟨rfl, n1.ext.trans u2.ch (fun y hy hb => by have := n1.blk; omega)⟩⟩
theorem Side.blk {w : World} {S : Nat → Prop} {Ps : List Cmp} {b : Nat} {o : Obj} (h : Side w S Ps) (i : Nat) (hi : Ps[i]? = some (cAt b o)) : At w b o := (h.get i hi).2
theorem TmAt.len {w : World} {S : Nat → Prop} {b : Nat} {l : List Tm} (h : TmAt w S b l) : l.length ≤ 2 ^ 30 := by
  obtain ⟨a, c, made, hm, h⟩ := h
  exact hm.2
section
variable {w : World} {S : Nat → Prop} {b : Nat} {σ : MS}
theorem mhas_in {p : Int} (h : MAt w S b σ) : Calls PP 99 #[pt b, i64 p] w (Pure w (.bool (decide (0 ≤ p ∧ p < σ.ps.length)))) := by
  obtain ⟨L, hs⟩ := h
  have h0 := (hs.get 0 rfl).2
  have hl : (pts L.pb).length = σ.ps.length := by
    have := (hs.get 7 rfl).1
    rw [pts_len, this, List.length_map]
  refine calls_den (fn := Tryz.f99) (args := [_, _]) Tryz.func99 rfl (by simp) (fun R hR => ?_)
  by_cases hp : p < 0
  · refine CLt.yes (by omega) ?_
    exact hR _ _ ⟨congrArg (fun b => Ending.returned (.bool b)) (by simp; omega), Ext.refl w⟩
  · refine CLt.no (by omega) ?_
    refine RUN.ld h0 rfl (rfl) ?_
    refine LEN.mk (σ.ps.length : Int) (by rw [hl]) ?_
    by_cases hq : p < σ.ps.length
    · refine CLt.yes (hq) ?_
      exact hR _ _ ⟨congrArg (fun b => Ending.returned (.bool b)) (by simp; omega), Ext.refl w⟩
    · refine CLt.no (hq) ?_
      exact hR _ _ ⟨congrArg (fun b => Ending.returned (.bool b)) (by simp; omega), Ext.refl w⟩
theorem mphase_in (h : MAt w S b σ) : Calls PP 60 #[pt b] w (Pure w (i64 σ.ph.phase)) := by
  obtain ⟨L, hs⟩ := h
  refine calls_den (fn := Tryz.f60) (args := [_]) Tryz.func60 rfl (by simp) (fun R hR => ?_)
  refine RUN.ld (hs.blk 0 rfl) rfl (rfl) ?_
  refine CALL.by (phase_in (hs.get 12 rfl)) rfl ?_
  rintro e w1 ⟨rfl, x1⟩
  exact hR _ _ ⟨rfl, x1⟩
theorem mcommits_in (h : MAt w S b σ) : Calls PP 29 #[pt b] w (Pure w (i64 σ.commits.length)) := by
  obtain ⟨L, hs⟩ := h
  refine calls_den (fn := Tryz.f29) (args := [_]) Tryz.func29 rfl (by simp) (fun R hR => ?_)
  refine RUN.ld (hs.blk 0 rfl) rfl (rfl) ?_
  refine LEN.mk (σ.commits.length : Int) (by simp) ?_
  exact hR _ _ ⟨rfl, Ext.refl w⟩
theorem status_in (h : MAt w S b σ) : Calls PP 28 #[pt b] w (Pure w (i64 (statusF σ))) := by
  obtain ⟨L, sd⟩ := h
  have h0 := sd.blk 0 rfl
  have hst := sd.get 3 rfl
  have htm := sd.get 9 rfl
  have c1 := cntI_bd 1 σ.st
  have c2 := cntI_bd 2 σ.st
  have c4 := cntI_bd 4 σ.st
  have c5 := cntI_bd 5 σ.st
  have hsl : σ.st.length ≤ 1024 := hst.2.1
  have htl : σ.tim.length ≤ 2 ^ 30 := TmAt.len htm
  refine calls_den (fn := Tryz.f28) (args := [_]) Tryz.func28 rfl (by simp) (fun R hR => ?_)
  refine RUN.ld h0 rfl (rfl) ?_
  refine RUN.ld h0 rfl (rfl) ?_
  unfold statusF at hR
  cases ho : σ.out with
  | true =>
    rw [ho, if_pos rfl] at hR
    exact hR _ _ ⟨rfl, Ext.refl w⟩
  | false =>
    rw [ho, if_neg (by decide)] at hR
    refine DRAW.q 6 (qs 6 0) (by kernel_rfl) (fun _ _ _ _ _ h => h) ?_
    refine CALLQ.mk _ rfl (fun w' hs => count_in ⟨by omega, by omega⟩ (StAt.fm.ext hst hs)) ?_
    refine RUNQ.ld h0 rfl (rfl) ?_
    intro w1 x1
    refine CALL.by (stlen_in (StAt.fm.ext hst x1)) rfl ?_
    rintro e w2 ⟨rfl, x2⟩
    by_cases hd : cntI 5 σ.st = σ.st.length
    · rw [if_pos hd] at hR
      refine CEq.yes (hd) ?_
      exact hR _ _ ⟨rfl, x1.trans' x2⟩
    · rw [if_neg hd] at hR
      have x3 := x1.trans' x2
      refine CEq.no (hd) ?_
      refine DRAW.q 13 (qs 13 0) (by kernel_rfl) (fun _ _ _ _ _ h => h) ?_
      refine CALLQ.mk _ rfl (fun w' hs => count_in ⟨by omega, by omega⟩ (StAt.fm.ext (StAt.fm.ext hst x3) hs)) ?_
      refine CALLQ.mk _ rfl (fun w' hs => count_in ⟨by omega, by omega⟩ (StAt.fm.ext (StAt.fm.ext hst x3) hs)) ?_
      refine ART.add (by omega) (fun a1 e1 => ?_)
      refine CALLQ.mk _ rfl (fun w' hs => count_in ⟨by omega, by omega⟩ (StAt.fm.ext (StAt.fm.ext hst x3) hs)) ?_
      refine ART.add (by omega) (fun a2 e2 => ?_)
      refine RUNQ.ld (Ext.at x3 h0) rfl (rfl) ?_
      refine CALLQ.mk _ rfl (fun w' hs => tmlen_in (TmAt.fm.ext (TmAt.fm.ext htm x3) hs)) ?_
      intro w4 x4
      refine ART.add (by omega) (fun a3 e3 => ?_)
      by_cases hq : cntI 1 σ.st + cntI 2 σ.st + cntI 4 σ.st + σ.tim.length = 0
      · rw [if_pos hq] at hR
        refine CEq.yes (by omega) ?_
        exact hR _ _ ⟨rfl, x3.trans' x4⟩
      · rw [if_neg hq] at hR
        refine CEq.no (by omega) ?_
        exact hR _ _ ⟨rfl, x3.trans' x4⟩
/-- What is known of a heap that is only asked: how many words live. -/
structure HpLive (hp : Nat → Cmp) (live : Int) : Prop where
  arena : ∀ {w : World} {S : Nat → Prop} {b : Nat}, (hp b).P w S → Calls PP 68 #[pt b] w (fun e w' => ∃ ab, e = .returned (pt ab) ∧ Ext w w' ∧ Calls PP 214 #[pt ab] w' (Pure w' (i64 live)))
theorem hp0_live (n : Int) : HpLive (cHp0 n) 0 := by
  refine ⟨fun {w S b} h => ?_⟩
  obtain ⟨ab, cb, pb, s, o, ob, ra, rc, own, h⟩ := h
  have h0 := h.blk 0 rfl
  have h1 := h.blk 1 rfl
  refine calls_den (fn := Tryz.f68) (args := [_]) Tryz.func68 rfl (by simp) (fun R hR => ?_)
  refine RUN.ld h0 rfl (rfl) ?_
  refine hR _ _ ⟨ab, rfl, Ext.refl w, ?_⟩
  refine calls_den (fn := Tryz.f214) (args := [_]) Tryz.func214 rfl (by simp) (fun R hR => ?_)
  refine RUN.ld h1 rfl (rfl) ?_
  exact hR _ _ ⟨rfl, Ext.refl w⟩
theorem mlive_in {live : Int} (h : MAt w S b σ) (hl : HpLive σ.hp live) : Calls PP 157 #[pt b] w (Pure w (i64 live)) := by
  obtain ⟨L, sd⟩ := h
  have arena : Calls PP 54 #[pt b] w (fun e w' => ∃ ab, e = .returned (pt ab) ∧ Ext w w' ∧ Calls PP 214 #[pt ab] w' (Pure w' (i64 live))) := by
    refine calls_den (fn := Tryz.f54) (args := [_]) Tryz.func54 rfl (by simp) (fun R hR => ?_)
    refine RUN.ld (sd.blk 0 rfl) rfl (rfl) ?_
    refine CALL.by (hl.arena (sd.get 2 rfl)) rfl ?_
    rintro e w1 ⟨ab, rfl, x1, hc⟩
    exact hR _ _ ⟨ab, rfl, x1, hc⟩
  refine calls_den (fn := Tryz.f157) (args := [_]) Tryz.func157 rfl (by simp) (fun R hR => ?_)
  refine CALL.by (arena) rfl ?_
  rintro e w1 ⟨ab, rfl, x1, hc⟩
  refine CALL.by (hc) rfl ?_
  rintro e w2 ⟨rfl, x2⟩
  exact hR _ _ ⟨rfl, x1.trans' x2⟩
/-- Does the pacer want a cycle? -/
def beginF (g : GoalT) (live : Int) : Bool := decide (g.trig ≤ live ∧ 0 < g.ratio)
theorem pbegin_in {g : GoalT} {live : Int} (w : World) : Calls PP 156 #[.agg #[i64 g.trig, i64 g.goal, i64 g.ratio], i64 live] w (Pure w (.bool (beginF g live))) := by
  unfold beginF
  refine calls_den (fn := Tryz.f156) (args := [_, _]) Tryz.func156 rfl (by simp) (fun R hR => ?_)
  refine RUN.box (fun b1 w1 n1 => ?_)
  refine RUN.ld n1.here rfl (rfl) ?_
  by_cases h : live < g.trig
  · refine CLt.yes (h) ?_
    exact hR _ _ ⟨congrArg (fun b => Ending.returned (.bool b)) (by simp; omega), n1.ext⟩
  · refine CLt.no (h) ?_
    refine RUN.ld n1.here rfl (rfl) ?_
    by_cases h2 : 0 < g.ratio
    · refine CLt.yes (h2) ?_
      exact hR _ _ ⟨congrArg (fun b => Ending.returned (.bool b)) (by simp; omega), n1.ext⟩
    · refine CLt.no (h2) ?_
      exact hR _ _ ⟨congrArg (fun b => Ending.returned (.bool b)) (by simp; omega), n1.ext⟩
end
end Go.E
end
/- A goroutine is put away; one is begun. -/
set_option linter.unusedVariables false
set_option linter.unusedSimpArgs false
set_option maxRecDepth 10000
noncomputable section
namespace Go.E
open Go Go.Proofs

theorem mC_ps {σ : MS} {L : ML} {a : Addr} (h : L.pa = some a) : (mC σ L)[9]? = some (.slice (some a) (pts L.pb).length L.pc) := by rw [← h]; rfl
theorem mC_gs {σ : MS} {L : ML} {a : Addr} (h : L.ga = some a) : (mC σ L)[8]? = some (.slice (some a) (pts L.gb).length L.gc) := by rw [← h]; rfl
theorem mC_gl {σ : MS} {L : ML} {a : Addr} (h : L.la = some a) : (mC σ L)[13]? = some (.slice (some a) (ints σ.globals).length L.lc) := by rw [← h]; rfl
theorem gorC_len {y : Gor} (h : y.stack.length = 16) : (gorC y).length = 21 := by simp [gorC, ints, h]
theorem gorC_setp {y : Gor} (h : y.stack.length = 16) (p : Int) : (gorC y).set 19 (i64 p) = gorC { y with p := p } := by
  unfold gorC
  rw [List.set_append_right _ _ (by simp [ints, h]), show 19 - ([i64 y.f, i64 y.pc, i64 y.count] ++ ints y.stack).length = 0 by simp [ints, h]]
  rfl
theorem gorC_getc {y : Gor} (h : y.stack.length = 16) : (gorC y)[20]? = some (i64 y.cycle) := by
  unfold gorC
  rw [List.getElem?_append_right (by simp [ints, h]), show 20 - ([i64 y.f, i64 y.pc, i64 y.count] ++ ints y.stack).length = 1 by simp [ints, h]]
  rfl
theorem gorC_setc {y : Gor} (h : y.stack.length = 16) (c : Int) : (gorC y).set 20 (i64 c) = gorC { y with cycle := c } := by
  unfold gorC
  rw [List.set_append_right _ _ (by simp [ints, h]), show 20 - ([i64 y.f, i64 y.pc, i64 y.count] ++ ints y.stack).length = 1 by simp [ints, h]]
  rfl
theorem gorC_get {y : Gor} (h : y.stack.length = 16) {i : Nat} (hi : i < 16) {o : Nat} (ho : o = 3 + i) : (gorC y)[o]? = some (i64 (y.stack.getD i 0)) := by
  subst ho
  unfold gorC
  rw [List.append_assoc, List.getElem?_append_right (by simp), List.getElem?_append_left (by simp [ints, h]; omega)]
  simp only [List.length_cons, List.length_nil, Nat.add_sub_cancel_left]
  exact ints_get (by simp [List.getD_eq_getElem?_getD, h, hi])
theorem gorC_set {y : Gor} (h : y.stack.length = 16) {i : Nat} (hi : i < 16) (v : Int) {o : Nat} (ho : o = 3 + i) : (gorC y).set o (i64 v) = gorC { y with stack := y.stack.set i v } := by
  subst ho
  unfold gorC
  rw [List.append_assoc, List.set_append_right _ _ (by simp), List.set_append_left _ _ (by simp [ints, h]; omega), List.append_assoc]
  simp only [List.length_cons, List.length_nil, Nat.add_sub_cancel_left]
  rw [ints_set]
theorem set_same {α β : Type} {f : α → β} {l : List α} {i : Nat} {x x' : α} (hx : l[i]? = some x) (h : f x' = f x) : (l.set i x').map f = l.map f := by
  rw [List.map_set, h]
  have : (l.map f)[i]? = some (f x) := by simp [hx]
  obtain ⟨hl, he⟩ := List.getElem?_eq_some_iff.1 this
  conv => lhs; rw [← he]
  exact List.set_getElem_self hl
section
variable {w0 w w' : World} {S0 S : Nat → Prop} {b : Nat} {σ : MS} {L : ML}
theorem Rn.pslen (R : Rn w0 S0 w S (mP b σ L)) : L.pb.length = σ.ps.length := by
  have := (R.get 7 rfl).1
  rwa [List.length_map] at this
theorem Rn.gslen (R : Rn w0 S0 w S (mP b σ L)) : L.gb.length = σ.gs.length := by
  have := (R.get 5 rfl).1
  rwa [List.length_map] at this
/-- Where a P lies. -/
theorem Rn.pat (R : Rn w0 S0 w S (mP b σ L)) {p : Nat} {x : Prc} (hx : σ.ps[p]? = some x) : ∃ pb, L.pb[p]? = some pb := by
  have hl := (List.getElem?_eq_some_iff.1 hx).1
  exact ⟨L.pb[p]'(by rw [R.pslen]; exact hl), List.getElem?_eq_getElem _⟩
theorem Rn.gat (R : Rn w0 S0 w S (mP b σ L)) {g : Nat} {y : Gor} (hy : σ.gs[g]? = some y) : ∃ gb, L.gb[g]? = some gb := by
  have hl := (List.getElem?_eq_some_iff.1 hy).1
  exact ⟨L.gb[g]'(by rw [R.gslen]; exact hl), List.getElem?_eq_getElem _⟩
theorem Rn.psl (R : Rn w0 S0 w S (mP b σ L)) {p pb : Nat} (hp : L.pb[p]? = some pb) : ∃ sb so pre post, L.pa = some ⟨sb, so, none⟩ ∧ S sb ∧ At w sb (B (pre ++ pts L.pb ++ post) 124) ∧ pre.length = so ∧ p < (pts L.pb).length := by
  have hl := (List.getElem?_eq_some_iff.1 hp).1
  obtain ⟨sb, so, pre, post, h1, h2, h3, h4⟩ := VS.open (R.get 6 rfl) (by rw [pts_len]; omega)
  exact ⟨sb, so, pre, post, h1, h2, h3, h4, by rw [pts_len]; exact hl⟩
theorem Rn.gsl (R : Rn w0 S0 w S (mP b σ L)) {g gb : Nat} (hg : L.gb[g]? = some gb) : ∃ sb so pre post, L.ga = some ⟨sb, so, none⟩ ∧ S sb ∧ At w sb (B (pre ++ pts L.gb ++ post) 118) ∧ pre.length = so ∧ g < (pts L.gb).length := by
  have hl := (List.getElem?_eq_some_iff.1 hg).1
  obtain ⟨sb, so, pre, post, h1, h2, h3, h4⟩ := VS.open (R.get 4 rfl) (by rw [pts_len]; omega)
  exact ⟨sb, so, pre, post, h1, h2, h3, h4, by rw [pts_len]; exact hl⟩
theorem Rn.prc (R : Rn w0 S0 w S (mP b σ L)) {p pb : Nat} {x : Prc} (hx : σ.ps[p]? = some x) (hp : L.pb[p]? = some pb) : At w pb (B (prcC x) 128) := by
  have := R.get 7 rfl
  exact (this.2.2 p pb (prcC x) hp (by simp [hx])).2
theorem Rn.prcS (R : Rn w0 S0 w S (mP b σ L)) {p pb : Nat} {x : Prc} (hx : σ.ps[p]? = some x) (hp : L.pb[p]? = some pb) : S pb := by
  have := R.get 7 rfl
  exact (this.2.2 p pb (prcC x) hp (by simp [hx])).1
theorem Rn.gorS (R : Rn w0 S0 w S (mP b σ L)) {g gb : Nat} {y : Gor} (hy : σ.gs[g]? = some y) (hg : L.gb[g]? = some gb) : S gb := by
  have := R.get 5 rfl
  exact (this.2.2 g gb (gorC y) hg (by simp [hy])).1
theorem Rn.gor (R : Rn w0 S0 w S (mP b σ L)) {g gb : Nat} {y : Gor} (hy : σ.gs[g]? = some y) (hg : L.gb[g]? = some gb) : At w gb (B (gorC y) 121) := by
  have := R.get 5 rfl
  exact (this.2.2 g gb (gorC y) hg (by simp [hy])).2
theorem Rn.setP (R : Rn w0 S0 w S (mP b σ L)) {p pb : Nat} {x x' : Prc} (hx : σ.ps[p]? = some x) (hp : L.pb[p]? = some pb) (hn : prcN x' = prcN x) (u : Upd w w' pb (B (prcC x') 128)) : Rn w0 S0 w' S (mP b (setP σ p x') L) := by
  have h := R.strec 7 rfl hp u
  rw [← List.map_set] at h
  have e : (σ.ps.set p x').map prcN = σ.ps.map prcN := set_same hx hn
  have : mP b (Go.E.setP σ p x') L = (mP b σ L).set 7 (cRc 128 L.pb ((σ.ps.set p x').map prcC)) := by
    unfold mP Go.E.setP
    simp only [e]
    rfl
  rw [this]
  exact h
theorem Rn.setG (R : Rn w0 S0 w S (mP b σ L)) {g gb : Nat} {y' : Gor} (hg : L.gb[g]? = some gb) (u : Upd w w' gb (B (gorC y') 121)) : Rn w0 S0 w' S (mP b (setG σ g y') L) := by
  have h := R.strec 5 rfl hg u
  rw [← List.map_set] at h
  exact h
end
theorem move_in' {w : World} {S : Nat → Prop} {b : Nat} {l : List Int} {g : Nat} {x t gi : Int} (hgi : gi = g) (hx : l[g]? = some x) (hw : wayb x t = true) (ht : 1 ≤ t ∧ t ≤ 5) (h : StAt w S b l) :
    Calls PP 102 #[pt b, i64 gi, i64 t] w (fun e w' => e = .returned (i64 0) ∧ StAt w' S b (l.set g t) ∧ Ch S w w') := by
  subst hgi
  have := move_in (g := (g : Int)) (by omega) (by simpa using hx) hw ht h
  simpa using this
theorem ready_in' {w : World} {S : Nat → Prop} {b : Nat} {rows : List (List Int)} {common : List Int} {p : Nat} {pi g : Int} (h : ScAt w S b rows common) (hpi : pi = p) (hp : p < rows.length) (hcl : common.length ≤ 2 ^ 30) :
    Calls PP 103 #[pt b, i64 pi, i64 g, .bool false] w (fun e w' => e = .returned (i64 0) ∧ ScAt w' (Nw w S) b (rows.set p (rput (rows.getD p []) g).1) (common ++ (rput (rows.getD p []) g).2) ∧ Ch S w w') := by
  subst hpi
  have hr : rows[(p : Int).toNat]? = some (rows.getD p []) := by simp [List.getD_eq_getElem?_getD, hp]
  have := ready_in (g := g) h (by omega) hr hcl
  simpa using this
section
variable {w : World} {S : Nat → Prop} {b : Nat} {σ : MS}
theorem away_in {p g : Nat} {pi : Int} {x : Prc} (h : MAt w S b σ) (hpi : pi = p) (hx : σ.ps[p]? = some x) (hg : x.g = g) (hst : σ.st[g]? = some 2) (hrow : p < σ.rows.length) (hcl : σ.common.length ≤ 2 ^ 30) :
    Calls PP 104 #[pt b, i64 pi] w (fun e w' => e = .returned (.agg #[i64 2, i64 g, i64 0]) ∧ MAt w' (Nw w S) b (awayF σ p g x) ∧ Ch S w w') := by
  obtain ⟨L, sd⟩ := h
  obtain ⟨S1, s1, Q⟩ := Rn.start sd
  subst hpi
  refine calls_den (fn := Tryz.f104) (args := [_, _]) Tryz.func104 rfl (by simp) (fun R hR => ?_)
  refine RUN.alloc rfl rfl (fun b4 w1 n1 => ?_)
  obtain ⟨Q1, f4, nf4, lf4⟩ := Q.fresh n1
  obtain ⟨pb, hpb⟩ := Q1.pat hx
  obtain ⟨sb, so, pre, post, ha, r1, r2, r3, hpl⟩ := Q1.psl hpb
  refine RUN.ld (Q1.blk 0 rfl) rfl ((mC_ps ha)) ?_
  refine BD.mk (so + p * 1) (by first | exact ⟨by decide, by decide, rfl⟩ | exact ⟨by omega, by omega, by omega⟩) ?_
  refine RUN.ld r2 rfl ((app_get r3 (pts_get hpb) rfl)) ?_
  refine RUN.ld (Q1.prc hx hpb) rfl (rfl) ?_
  refine RUN.ld (Q1.blk 0 rfl) rfl (rfl) ?_
  obtain ⟨Si, si, hP, cl⟩ := Q1.step 3 rfl
  refine CALL.by (move_in' hg hst rfl ⟨by omega, by omega⟩ hP) rfl ?_
  rintro e w2 ⟨rfl, q2, c2⟩
  obtain ⟨S2, Q2, kp2, kn2⟩ := cl (cSt L.st (σ.st.set g 1)) c2 (Own.refl _ _) q2
  obtain ⟨f4b, nf4b⟩ := kp2 f4 nf4
  replace Q2 : Rn w S w2 S2 (mP b (mvF σ g 1) L) := Q2
  refine RUN.ld (Q2.blk 0 rfl) rfl (rfl) ?_
  obtain ⟨Sj, sj, hQ, cl2⟩ := Q2.step 8 rfl
  refine CALL.by (ready_in' (g := x.g) hQ rfl hrow hcl) rfl ?_
  rintro e w3 ⟨rfl, q3, c3⟩
  obtain ⟨S3, Q3, kp3, kn3⟩ := cl2 (cSc L.sc _ _) c3 (Nw.own _ _) q3
  obtain ⟨f4c, nf4c⟩ := kp3 f4b nf4b
  rw [hg] at Q3
  replace Q3 : Rn w S w3 S3 (mP b (readyF (mvF σ g 1) p g) L) := Q3
  refine RUN.sti (Q3.prc hx hpb) rfl (by simp [prcC]) (fun w4 u4 => ?_)
  have Q4 := Q3.setP (x := x) (x' := { x with g := -1 }) hx hpb rfl u4
  have f4d := u4.keep f4c nf4c (Q3.prcS hx hpb)
  refine CALL.by (event_in w4) rfl ?_
  rintro e w5 ⟨rfl, x5⟩
  refine RUN.sta (vs := [i64 2, i64 x.g, i64 0]) (x5.at f4d) rfl (by simp) (by simp [Value.oneCell']) (fun w6 u6 => ?_)
  have Q6 := (Q4.ext x5).upd u6 lf4 nf4c
  refine RUN.lda (vs := [i64 2, i64 x.g, i64 0]) u6.here rfl (Nat.le_of_ble_eq_true rfl) rfl ?_
  refine ⟨rfl, hR _ _ ⟨by rw [hg]; rfl, ⟨L, Q6.fin⟩, Q6.cc⟩⟩
end
theorem RcAt.snoc {w : World} {A C : Nat → Prop} {T b : Nat} {bs : List Nat} {cs : List (List Value)} {c : List Value} (h : RcAt w A T bs cs) (hb : C b ∧ At w b (B c T)) (hd : ∀ y, A y → C y → False) : RcAt w (fun y => A y ∨ C y) T (bs ++ [b]) (cs ++ [c]) := by
  obtain ⟨h1, h2, h3⟩ := h
  have own : ∀ y ∈ bs, A y := by
    intro y hy
    obtain ⟨i, hi⟩ := List.getElem?_of_mem hy
    have hl := (List.getElem?_eq_some_iff.1 hi).1
    exact (h3 i y _ hi (List.getElem?_eq_getElem (by rw [← h1]; exact hl))).1
  refine ⟨by simp [h1], ?_, fun k r z hk hz => ?_⟩
  · rw [List.nodup_append]
    refine ⟨h2, by simp, fun y hy z hz => ?_⟩
    simp at hz
    subst hz
    rintro rfl
    exact hd _ (own _ hy) hb.1
  · by_cases hkl : k < bs.length
    · rw [List.getElem?_append_left hkl] at hk
      rw [List.getElem?_append_left (by omega)] at hz
      have := h3 k r z hk hz
      exact ⟨.inl this.1, this.2⟩
    · have hk2 : k = bs.length := by
        have := (List.getElem?_eq_some_iff.1 hk).1
        simp at this; omega
      subst hk2
      rw [List.getElem?_append_right (by omega), Nat.sub_self] at hk
      rw [h1, List.getElem?_append_right (by omega), Nat.sub_self] at hz
      cases hk; cases hz
      exact ⟨.inr hb.1, hb.2⟩
theorem stk0_cells (v : Int) : ints (stk0 v) = i64 v :: List.replicate 15 (i64 0) := by simp [ints, stk0]
section
variable {w : World} {S : Nat → Prop} {b : Nat} {σ : MS}
theorem mspawn_full {p f v : Int} (h : MAt w S b σ) (hl : σ.st.length = 1024) : Calls PP 98 #[pt b, i64 p, i64 f, i64 v] w (fun e w' => e = .returned (i64 (-1)) ∧ Ext w w') := by
  obtain ⟨L, sd⟩ := h
  refine calls_den (fn := Tryz.f98) (args := [_, _, _, _]) Tryz.func98 rfl (by simp) (fun R hR => ?_)
  refine RUN.ld (sd.blk 0 rfl) rfl (rfl) ?_
  refine CALL.by (spawn_full hl (sd.get 3 rfl)) rfl ?_
  rintro e w1 ⟨rfl, x1⟩
  refine CEq.no (by omega) ?_
  exact hR _ _ ⟨rfl, x1⟩
theorem mspawn_in {p f : Nat} {pi fi v : Int} {L : ML} (sd : Side w S (mP b σ L)) (hpi : pi = p) (hfi : fi = f) (hl : σ.st.length < 1024) (hgl : σ.gs.length = σ.st.length) (hrow : p < σ.rows.length) (hcl : σ.common.length ≤ 2 ^ 30) (hph : σ.ph.phase ≠ 1) :
    Calls PP 98 #[pt b, i64 pi, i64 fi, i64 v] w (fun e w' => e = .returned (i64 σ.st.length) ∧ (∃ L', L'.pb = L.pb ∧ Side w' (Nw w S) (mP b (spawnF σ p f v) L')) ∧ Ch S w w') := by
  obtain ⟨S1, s1, Q⟩ := Rn.start sd
  subst hpi hfi
  refine calls_den (fn := Tryz.f98) (args := [_, _, _, _]) Tryz.func98 rfl (by simp) (fun R hR => ?_)
  refine RUN.ld (Q.blk 0 rfl) rfl (rfl) ?_
  obtain ⟨Si, si, hP, cl⟩ := Q.step 3 rfl
  refine CALL.by (spawn_in hl hP) rfl ?_
  rintro e w2 ⟨rfl, ⟨S2', o2, q2⟩, c2⟩
  obtain ⟨S2, Q2, kp2, kn2⟩ := cl (cSt L.st (σ.st ++ [1])) c2 o2 q2
  replace Q2 : Rn w S w2 S2 (mP b { σ with st := σ.st ++ [1] } L) := Q2
  refine CEq.yes (rfl) ?_
  refine RUN.ld (Q2.blk 0 rfl) rfl (rfl) ?_
  refine RUN.box (fun nb w3 n3 => ?_)
  refine RUN.buildSlice rfl rfl rfl rfl rfl rfl rfl (fun sb w4 n4 => ?_)
  obtain ⟨S3, Q3, k3⟩ := Q2.add1 n3
  have Q4 := Q3.ext n4.ext
  obtain ⟨Sj, sj, hG, cl2⟩ := Q4.step 4 rfl
  have hgbl : L.gb.length = σ.gs.length := Q2.gslen
  refine RUN.vapp1 (vs := pts L.gb) (v := pt nb) hG n4.here rfl rfl rfl rfl rfl rfl (by rw [pts_len]; omega) rfl (fun a' c' w5 hv hc => ?_)
  obtain ⟨S5', o5, q5⟩ := hv
  obtain ⟨S5, Q5, kp5, kn5⟩ := cl2 (cVS 118 a' c' (pts L.gb ++ [pt nb])) hc o5 q5
  refine RUN.stl (Q5.blk 0 rfl) rfl (Nat.le_of_ble_eq_true rfl) (fun w6 u6 => ?_)
  have Q6 := Q5.st 0 rfl u6
  have Q7 := Q6.merge 5 17 rfl rfl (by decide) (cRc 121 (L.gb ++ [nb]) (σ.gs.map gorC ++ [gorC ⟨f, 0, 0, List.replicate 16 0, 0, 0⟩])) ⟨fun _ _ => True, fun _ _ _ _ _ _ => trivial⟩ (fun A C hd h1 h2 => RcAt.snoc h1 h2 hd) trivial
  have Q8 : Rn w S w6 S5 (mP b { σ with st := σ.st ++ [1], gs := σ.gs ++ [⟨f, 0, 0, List.replicate 16 0, 0, 0⟩] } { L with ga := a', gc := c', gb := L.gb ++ [nb] }) := by
    unfold mP mC
    simp only [pts_app, List.map_append]
    exact Q7.perm [0, 1, 2, 3, 4, 5, 6, 7, 8, 9, 10, 11, 12, 13, 14, 15, 16] rfl (by decide) (by rintro (_ | _ | _ | _ | _ | _ | _ | _ | _ | _ | _ | _ | _ | _ | _ | _ | _ | i) c hc <;> first | exact hc | (simp at hc))
  clear Q3 Q4 Q5 Q6 Q7
  have hg : (σ.gs ++ [(⟨f, 0, 0, List.replicate 16 0, 0, 0⟩ : Gor)])[σ.st.length]? = some ⟨f, 0, 0, List.replicate 16 0, 0, 0⟩ := by rw [← hgl]; simp
  have hgb : (L.gb ++ [nb])[σ.st.length]? = some nb := by rw [← hgl, ← hgbl]; simp
  obtain ⟨tb, to, pre, post, ha, r1, r2, r3, hpl⟩ := Q8.gsl hgb
  refine RUN.ld (Q8.blk 0 rfl) rfl ((mC_gs ha)) ?_
  refine BD.mk (to + σ.st.length * 1) (by first | exact ⟨by decide, by decide, rfl⟩ | exact ⟨by omega, by omega, by omega⟩) ?_
  refine RUN.ld r2 rfl ((app_get r3 (pts_get hgb) rfl)) ?_
  refine BD.mk (3 + 0 * 1) (by first | exact ⟨by decide, by decide, rfl⟩ | exact ⟨by omega, by omega, by omega⟩) ?_
  refine RUN.sti (Q8.gor hg hgb) rfl (Nat.le_of_ble_eq_true rfl) (fun w7 u7 => ?_)
  have Q9 := Q8.setG (y' := ⟨f, 0, 0, stk0 v, 0, 0⟩) hgb u7
  have e9 : (σ.gs ++ [(⟨f, 0, 0, List.replicate 16 0, 0, 0⟩ : Gor)]).set σ.st.length ⟨f, 0, 0, stk0 v, 0, 0⟩ = σ.gs ++ [⟨f, 0, 0, stk0 v, 0, 0⟩] := by
    rw [← hgl, List.set_append_right _ _ (Nat.le_refl _), Nat.sub_self]; rfl
  unfold setG at Q9
  simp only [e9] at Q9
  refine RUN.ld (Q9.blk 0 rfl) rfl (rfl) ?_
  obtain ⟨Sk, sk, hQ, cl3⟩ := Q9.step 8 rfl
  refine CALL.by (ready_in' (g := (σ.st.length : Int)) hQ rfl hrow hcl) rfl ?_
  rintro e w8 ⟨rfl, q8, c8⟩
  obtain ⟨S8, Qa, kp8, kn8⟩ := cl3 (cSc L.sc _ _) c8 (Nw.own _ _) q8
  replace Qa : Rn w S w8 S8 (mP b (spawnF σ p f v) { L with ga := a', gc := c', gb := L.gb ++ [nb] }) := Qa
  refine RUN.ld (Qa.blk 0 rfl) rfl (rfl) ?_
  refine CALL.by (phase_in (Qa.get 12 rfl)) rfl ?_
  rintro e w9 ⟨rfl, x9⟩
  refine CEq.no (hph) ?_
  exact hR _ _ ⟨rfl, ⟨{ L with ga := a', gc := c', gb := L.gb ++ [nb] }, rfl, (Qa.ext x9).fin⟩, (Qa.ext x9).cc⟩
end
end Go.E
end
