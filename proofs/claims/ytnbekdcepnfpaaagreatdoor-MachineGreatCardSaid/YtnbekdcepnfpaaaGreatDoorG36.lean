/- The model does what a commit says. -/
import Derived.Test.YtnbekdcepnfpaaaGreatDoorG35
import Derived.Test.YtnbekdcepnfpaaaGreatDoorL10
set_option linter.unusedVariables false
set_option linter.unusedSimpArgs false
set_option maxRecDepth 10000
noncomputable section
namespace Go.E
open Go Go.Proofs

/-- Model and machine stand alike, while no object is there and nobody sleeps. -/
structure SimX (x : XS) (σ : MS) : Prop where
  fs : x.fs = σ.fs
  core : coreZ x = coreM σ
  ob : x.objs = []
  tm : x.tim = []
  clk : x.clock = 0
theorem SimX.ok {x : XS} {σ : MS} (h : SimX x σ) (I : Inv σ) (hs : σ.steps ≤ 2 ^ 50) : XOk x := by
  have hg : x.gs = (coreM σ).gs := by rw [← h.core]; rfl
  have hw : x.waits = σ.waits := by
    have : (coreZ x).waits = (coreM σ).waits := by rw [h.core]
    exact this
  refine ⟨h.ob, h.tm, fun y hy => ?_, ?_, by rw [hw]; exact I.wl, fun l hl => ?_⟩
  · rw [hg] at hy
    obtain ⟨n, hn⟩ := List.getElem?_of_mem hy
    have h1 : (List.zipWith cg1 σ.st σ.gs)[n]? = some y := hn
    rw [List.getElem?_zipWith] at h1
    cases ha : σ.st[n]? with
    | none => rw [ha] at h1; simp at h1
    | some s =>
      cases hb : σ.gs[n]? with
      | none => rw [ha, hb] at h1; simp at h1
      | some y0 =>
        rw [ha, hb] at h1
        simp at h1
        subst h1
        have := I.gs y0 (List.mem_of_getElem? hb)
        refine ⟨this.1, ⟨by rw [h.fs]; exact this.2.1, ?_⟩, this.2.2.2⟩
        have h3 : (y0.pc : Int) ≤ 2 ^ 60 := by have := this.2.2.1; omega
        show y0.pc ≤ 2 ^ 60
        omega
  · rw [hg, cg_len I]; exact I.sl
  · rw [hw] at hl
    refine ⟨?_, fun v hv => ?_⟩
    · have h1 := I.sch.wlen
      have h2 : l.length ≤ σ.waits.flatten.length := by
        exact (List.sublist_flatten_of_mem hl).length_le
      have h3 := I.sl
      omega
    · obtain ⟨n, h1, h2⟩ := I.sch.w v (List.mem_flatten.2 ⟨l, hl, hv⟩)
      obtain ⟨z, h3, h4⟩ := cg_get I h2
      exact ⟨n, h1, z, by rw [hg]; exact h3, by rw [h4]; rfl⟩
theorem cex_cm (C : Core) (g : Nat) (z : CG) (i : In) : (cex C g z i).2.g = g := by
  unfold cex
  split <;> (try split) <;> (try split) <;> rfl
theorem cex_op (C : Core) (g : Nat) (z : CG) (i : In) : (cex C g z i).2.op = i.op := by
  unfold cex
  split <;> (try split) <;> (try split) <;> rfl
section
variable {w : World} {S : Nat → Prop} {wb mb xb ac : Nat} {aa : Option Addr} {σ : MS} {x : XS} {V : WS}
theorem wfollow_in {g : Nat} {z : CG} (h : Side w S (wP wb mb xb aa ac σ x V)) (hx : XOk x) (hz : x.gs[g]? = some z) (hst : z.st = 1) (hp : plainI x.fs.length (instAt x.fs z.f z.pc)) (hadd : V.addr = [0]) {cm : Cmt}
    (hcm : cm = (cex (coreZ x) g z (instAt x.fs z.f z.pc)).2) :
    Calls PP 62 #[pt wb, .agg (cmC cm).toArray] w (fun e w' => ∃ x', e = .returned (.bool true) ∧ Side w' (Nw w S) (wP wb mb xb aa ac σ x' V) ∧ x'.fs = x.fs ∧ x'.objs = [] ∧ x'.tim = [] ∧ x'.clock = x.clock ∧ coreZ x' = (cex (coreZ x) g z (instAt x.fs z.f z.pc)).1 ∧ Ch S w w') := by
  obtain ⟨S0, s0, Q0⟩ := Rn.start h
  have hop1 : cm.op ≠ 1 := by
    rw [hcm, cex_op]
    rcases hp with h | h | ⟨h, _⟩ | ⟨h, _⟩ | ⟨h, _⟩ | ⟨h, _⟩ | ⟨h, _⟩ | ⟨h, _⟩ | ⟨h, _⟩ | ⟨h, _⟩ | ⟨h, _⟩ <;> omega
  have hop2 : cm.op = 2 → cm.value = 0 := by
    rw [hcm, cex_op]
    intro h2
    have hm : (coreZ x).mem = fun _ => none := by show memO x.objs = _; rw [hx.ob]; exact memO_nil
    simp [cex, h2, hm, cFt]
  have hg : (cm.g : Int) = g := by rw [hcm, cex_cm]
  refine calls_sem (fn := Tryz.f62) (args := [_, _]) Tryz.func62 rfl (by simp) (fun R hR => ?_)
  refine SEM.cut (X := Nat × Nat × XS) 4 (fun t => [(0, pt wb), (3, pt t.1), (6, pt t.2.1)])
    (fun t w' => (t.2.2.fs = x.fs ∧ t.2.2.objs = [] ∧ t.2.2.tim = [] ∧ t.2.2.clock = x.clock ∧ coreZ t.2.2 = (cex (coreZ x) g z (instAt x.fs z.f z.pc)).1) ∧ ∃ S', Rn w S w' S' (wP wb mb xb aa ac σ t.2.2 V ++ [cAt t.1 (B (cmC cm) 53), cAt t.2.1 (B (cmC cm) 53)])) rfl ?_ ?_
  · refine RUN.box (fun b3 w1 n1 => ?_)
    obtain ⟨S1, Q1, _⟩ := Q0.add1 n1
    replace Q1 : Rn w S w1 S1 (wP wb mb xb aa ac σ x V ++ [cAt b3 (B (cmC cm) 53)]) := Q1
    refine RUN.ld (Q1.blk 4 rfl) rfl (show _ = some (i64 cm.op) from rfl) ?_
    refine CEq.no (by omega) ?_
    refine DRAW.cut (X := Nat × XS) (fun t => [(0, pt wb), (3, pt b3), (6, pt t.1), (7, i64 0)])
      (fun t w' => (t.2.fs = x.fs ∧ t.2.objs = [] ∧ t.2.tim = [] ∧ t.2.clock = x.clock ∧ coreZ t.2 = (cex (coreZ x) g z (instAt x.fs z.f z.pc)).1) ∧ ∃ S', Rn w S w' S' (wP wb mb xb aa ac σ t.2 V ++ [cAt b3 (B (cmC cm) 53), cAt t.1 (B (cmC cm) 53)])) ?_ ?_
    · refine DRAW.tk 12 (.q 0 (.q 1 (.q 2 (.q 3 (.q 4 (.q 5 (.b 6 10 (.q 7 (.q 8 (.q 9 (.s 10 (.s 11 .nil))))) (.s 6 (.q 7 (.q 8 (.q 9 (.s 11 .nil)))))))))))) [wb, b3] (by kernel_rfl) (fun _ _ _ _ _ h => absurd h.1 (by simp)) ?_
      refine RUNQ.kld (Q1.blk 0 rfl) (by simp) rfl (rfl) ?_
      refine RUNQ.kld (v := i64 cm.g) (Q1.blk 4 rfl) (by simp) rfl rfl ?_
      refine ⟨?_, ?_⟩
      · intro v1 y1 t1
        obtain ⟨Si, si, hn, hP, cl⟩ := (Q1.ext y1).stepN 2 rfl
        refine CALL.by (xdo_in hP hx hg hz hst hp) rfl ?_
        rintro e v2 ⟨x', rfl, q2, h1, h2, h3, h4, h5, c2⟩
        rw [← hcm]
        obtain ⟨S2, Q2⟩ := cl (cXa xb x') c2 (Nw.own _ _) q2
        replace Q2 : Rn w S v2 S2 (wP wb mb xb aa ac σ x' V ++ [cAt b3 (B (cmC cm) 53)]) := Q2
        refine ⟨Keep.ch t1 c2 (fun y hy _ hh => ?_), ?_⟩
        · simp only [List.mem_cons, List.not_mem_nil, or_false] at hy
          rcases hy with rfl | rfl
          · exact hn 0 _ _ rfl (by decide) hh
          · exact hn 4 _ _ rfl (by decide) hh
        intro v3 y3 t3
        refine RUN.alloc rfl rfl (fun b6 v4 n4 => ?_)
        refine ⟨Keep.ext _ _ _ _ t3 n4.ext, ?_⟩
        obtain ⟨S4, Q4, _⟩ := (Q2.ext y3).add1 n4
        intro v5 y5 t5
        refine RUN.sta (vs := cmC cm) (y5.at n4.here) rfl (by simp [cmC]) (by simp [cmC, Value.oneCell']) (fun v6 u6 => ?_)
        have Q6 := (Q4.ext y5).st 5 rfl u6
        refine ⟨Keep.ch (Keep.ext _ _ _ _ t3 (n4.ext.trans' y5)) u6.ch (fun y hy _ hh => ?_), ?_⟩
        · have := n4.blk
          have := t3.1
          simp only [List.mem_cons, List.not_mem_nil, or_false] at hy
          have e1 := (Q1.blk 0 rfl).lt
          have e2 := (Q1.blk 4 rfl).lt
          rcases hy with rfl | rfl <;> omega
        intro v7 y7
        exact ⟨rfl, rfl, (b6, x'), ⟨rfl, rfl, rfl, rfl, trivial⟩, ⟨h1, h2, h3, h4, h5⟩, S4, Q6.ext y7⟩
      · intro v1 y1 t1
        refine RUN.alloc rfl rfl (fun b6 v2 n2 => ?_)
        refine ⟨Keep.ext _ _ _ _ t1 n2.ext, ?_⟩
        obtain ⟨S2, Q2, _⟩ := (Q1.ext y1).add1 n2
        intro v3 y3 t3
        obtain ⟨Si, si, hn, hP, cl⟩ := (Q2.ext y3).stepN 2 rfl
        refine CALL.by (xdo_in hP hx hg hz hst hp) rfl ?_
        rintro e v4 ⟨x', rfl, q4, h1, h2, h3, h4, h5, c4⟩
        rw [← hcm]
        obtain ⟨S4, Q4⟩ := cl (cXa xb x') c4 (Nw.own _ _) q4
        have t4 : Keep w1 [wb, b3] v4 := Keep.ch t3 c4 (fun y hy _ hh => by
          simp only [List.mem_cons, List.not_mem_nil, or_false] at hy
          rcases hy with rfl | rfl
          · exact hn 0 _ _ rfl (by decide) hh
          · exact hn 4 _ _ rfl (by decide) hh)
        refine ⟨t4, ?_⟩
        intro v5 y5 t5
        have Q5 := Q4.ext y5
        refine RUN.sta (vs := cmC cm) (Q5.blk 5 rfl) rfl (by simp [cmC]) (by simp [cmC, Value.oneCell']) (fun v6 u6 => ?_)
        have Q6 := Q5.st 5 rfl u6
        refine ⟨Keep.ch t5 u6.ch (fun y hy _ hh => ?_), ?_⟩
        · have := n2.blk
          have := y1.size
          simp only [List.mem_cons, List.not_mem_nil, or_false] at hy
          have e1 := (Q1.blk 0 rfl).lt
          have e2 := (Q1.blk 4 rfl).lt
          rcases hy with rfl | rfl <;> omega
        intro v7 y7
        exact ⟨rfl, rfl, (b6, x'), ⟨rfl, rfl, rfl, rfl, trivial⟩, ⟨h1, h2, h3, h4, h5⟩, S4, Q6.ext y7⟩
    rintro ⟨b6, x'⟩ w2 ⟨hx', S2, Q2⟩ j2
    simp only at hx' Q2
    obtain ⟨β, hβ⟩ : ∃ β, cm.fault = β := ⟨_, rfl⟩
    have h6 := Q2.blk 5 rfl
    have h3 := Q2.blk 4 rfl
    refine CEq.yes (rfl) ?_
    refine RUN.ld h6 rfl (show _ = some (i64 cm.g) from rfl) ?_
    refine RUN.ld h3 rfl (show _ = some (i64 cm.g) from rfl) ?_
    refine CEq.yes (rfl) ?_
    refine RUN.ld h6 rfl (show _ = some (i64 cm.f) from rfl) ?_
    refine RUN.ld h3 rfl (show _ = some (i64 cm.f) from rfl) ?_
    refine CEq.yes (rfl) ?_
    refine RUN.ld h6 rfl (show _ = some (i64 cm.pc) from rfl) ?_
    refine RUN.ld h3 rfl (show _ = some (i64 cm.pc) from rfl) ?_
    refine CEq.yes (rfl) ?_
    refine RUN.ld h6 rfl (show _ = some (i64 cm.op) from rfl) ?_
    refine RUN.ld h3 rfl (show _ = some (i64 cm.op) from rfl) ?_
    refine CEq.yes (rfl) ?_
    refine RUN.ld (v := .bool β) h6 rfl (by simp [cmC, hβ]) ?_
    refine RUN.ld (v := .bool β) h3 rfl (by simp [cmC, hβ]) ?_
    cases β
    · exact ⟨rfl, (b3, b6, x'), ⟨rfl, rfl, rfl, trivial⟩, hx', S2, Q2⟩
    · exact ⟨rfl, (b3, b6, x'), ⟨rfl, rfl, rfl, trivial⟩, hx', S2, Q2⟩
  rintro ⟨b3, b6, x'⟩ w2 ⟨⟨h1, h2, h3, h4, h5⟩, S2, Q2⟩ j2
  simp only at h1 h2 h3 h4 h5 Q2
  refine SEM.of ?_
  have g6 := Q2.blk 5 rfl
  have g3 := Q2.blk 4 rfl
  have out : ∀ {w' : World}, Ext w2 w' → ∃ x', (Ending.returned (.bool true) : Ending) = .returned (.bool true) ∧ Side w' (Nw w S) (wP wb mb xb aa ac σ x' V) ∧ x'.fs = x.fs ∧ x'.objs = [] ∧ x'.tim = [] ∧ x'.clock = x.clock ∧ coreZ x' = (cex (coreZ x) g z (instAt x.fs z.f z.pc)).1 ∧ Ch S w w' := by
    intro w' xe
    have Q3 := Q2.ext xe
    exact ⟨x', rfl, (Q3.perm (Qs := wP wb mb xb aa ac σ x' V) [0, 1, 2, 3] rfl (by decide) (by rintro (_ | _ | _ | _ | i) c hc <;> first | exact hc | (simp [wP] at hc))).fin, h1, h2, h3, h4, h5, Q3.cc⟩
  refine RUN.ld g3 rfl (show _ = some (i64 cm.op) from rfl) ?_
  refine CEq.no (by omega) ?_
  by_cases ho : cm.op = 2
  · have hv := hop2 ho
    have ha : VS w2 S2 3 aa ac (ints V.addr) := Q2.get 3 rfl
    rw [hadd] at ha
    obtain ⟨ab, ao, pre, post, rfl, a1, a2, a3⟩ := ha.open (by simp [ints])
    have hown : (wC mb xb (some ⟨ab, ao, none⟩) ac V)[6]? = some (.slice (some ⟨ab, ao, none⟩) (ints [0]).length ac) := by rw [← hadd]; rfl
    refine CEq.yes (by omega) ?_
    refine DRAW.q 24 (qs 24 0) (by kernel_rfl) (fun _ _ _ _ _ h => h) ?_
    refine RUNQ.ld g6 rfl (show _ = some (i64 cm.value) from rfl) ?_
    refine CLt.no ((by omega)) ?_
    refine RUNQ.ld g6 rfl (show _ = some (i64 cm.value) from rfl) ?_
    refine RUNQ.ld (Q2.blk 0 rfl) rfl (hown) ?_
    refine LEN.mk (1) (by first | rfl | simp [ints] | (simp [ints]; omega)) ?_
    refine CLt.yes ((by omega)) ?_
    refine RUNQ.ld (Q2.blk 0 rfl) rfl (hown) ?_
    refine RUNQ.ld g6 rfl (show _ = some (i64 cm.value) from rfl) ?_
    refine BD.mk (ao + 0 * 1) ⟨by omega, by simp [ints]; omega, by omega⟩ ?_
    refine RUNQ.ld a2 rfl ((app_geti (l := [0]) a3 rfl rfl)) ?_
    refine RUNQ.ld g3 rfl (show _ = some (i64 cm.value) from rfl) ?_
    intro w3 x3
    refine CEq.yes (by omega) ?_
    exact hR _ _ (out x3)
  · refine CEq.no (by omega) ?_
    refine RUN.ld g6 rfl (show _ = some (i64 cm.value) from rfl) ?_
    refine RUN.ld g3 rfl (show _ = some (i64 cm.value) from rfl) ?_
    refine CEq.yes (rfl) ?_
    exact hR _ _ (out (Ext.refl _))
end
end Go.E
end
