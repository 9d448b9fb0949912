/- The reference's model: exit, spawn, sleep, block, wake. -/
import Derived.Test.YtnbekdcepnfpaaaGreatDoorG31
set_option linter.unusedVariables false
set_option linter.unusedSimpArgs false
set_option maxRecDepth 10000
noncomputable section
namespace Go.E
open Go Go.Proofs

/-- Is a number among some? -/
theorem rhas_in {w : World} {S : Nat → Prop} {a : Option Addr} {c : Nat} {l : List Int} {v : Int} (h : VS w S 3 a c (ints l)) (hl : l.length ≤ 2 ^ 35) : Calls PP 40 #[.slice a (ints l).length c, i64 v] w (Pure w (.bool (decide (v ∈ l)))) := by
  refine calls_den (fn := Tryz.f40) (args := [_, _]) Tryz.func40 rfl (by simp) (fun R hR => ?_)
  refine LOOP.inv (X := Nat) (fun i => [(0, .slice a (ints l).length c), (1, i64 v), (5, i64 i)]) (fun i w' => i ≤ l.length ∧ w' = w ∧ v ∉ l.take i) (fun i => l.length - i) 0 ⟨rfl, rfl, rfl, trivial⟩ ⟨Nat.zero_le _, rfl, by simp⟩ ?_
  rintro i _ ⟨hi, rfl, hn⟩ j
  refine LEN.mk ((l.length : Int)) (by first | rfl | simp [ints] | (simp [ints]; omega)) ?_
  by_cases hlt : i < l.length
  · obtain ⟨b, o, pre, post, rfl, h1, h2, h3⟩ := h.open (by rw [ints_length]; omega)
    obtain ⟨u, hu⟩ : ∃ u, l[i]? = some u := ⟨_, List.getElem?_eq_getElem hlt⟩
    refine CLt.yes (by omega) ?_
    refine BD.mk (o + i * 1) ⟨by omega, by rw [ints_length]; omega, rfl⟩ ?_
    refine RUN.ld h2 rfl ((app_get h3 (ints_get hu) rfl)) ?_
    by_cases he : u = v
    · refine CEq.yes (he) ?_
      subst he
      have : u ∈ l := List.mem_of_getElem? hu
      rw [decide_eq_true this] at hR
      exact hR _ _ ⟨rfl, Ext.refl _⟩
    · refine CEq.no (he) ?_
      refine ART.add (by omega) (fun r hr => ?_)
      subst hr
      refine Nxt.mk (i + 1) ?_ ?_ ?_
      · exact ⟨rfl, rfl, rfl, trivial⟩
      · refine ⟨hlt, rfl, ?_⟩
        obtain ⟨h4, h5⟩ := List.getElem?_eq_some_iff.1 hu
        rw [List.take_succ_eq_append_getElem h4, h5]
        simp only [List.mem_append, List.mem_singleton, not_or]
        exact ⟨hn, fun hh => he hh.symm⟩
      · omega
  · refine CLt.no (by omega) ?_
    rw [List.take_of_length_le (by omega)] at hn
    rw [decide_eq_false hn] at hR
    exact hR _ _ ⟨rfl, Ext.refl _⟩
/-- A row anew; one more behind it. -/
theorem RUN.cat0 {v w1 : World} {be c : Nat} {a : Option Addr} {l : List Int} {U : Nat → Prop} {ty : TypeId} {args : Array Operand} {K : Value → World → Prop} {X : List PanicEntry → World → Prop} (hb : At v be (B [] 3)) (hx : VS v U 3 a c (ints l)) (t : Ext w1 v) (hbe : w1.heap.size ≤ be) (hl : l.length ≤ 2 ^ 30)
    (k : ∀ a' c' v', VS v' (fun y => w1.heap.size ≤ y) 3 a' c' (ints l) → Ext w1 v' → Ch (fun y => y = be) v v' → K (.slice a' (ints l).length c') v') : RUN (.call ⟨.builtin .append, args, #[37, 37]⟩) ty [.slice (some ⟨be, 0, none⟩) 0 0, .slice a (ints l).length c] v K X := by
  have h0 : VS v (fun y => y = be) 3 (some ⟨be, 0, none⟩) 0 [] := ⟨rfl, .inr ⟨be, 0, 0, [], [], rfl, rfl, by simpa using hb, rfl, Nat.le_refl _, by simp⟩⟩
  refine RUN.vapp (vs := []) (ys := ints l) h0 hx rfl rfl rfl rfl rfl (ints_one _) (by simp [ints]; omega) rfl (fun a' c' v' hv hc => ?_)
  obtain ⟨T, o, q⟩ := hv
  have z := t.size
  exact k a' c' v' (VS.fm.mono q fun y _ hy => by rcases o y hy with h | h <;> omega) (t.trans hc (fun y hy hh => by omega)) hc
theorem RUN.snoc1 {v w1 : World} {bg c : Nat} {a : Option Addr} {l : List Int} {g : Int} {ty : TypeId} {args : Array Operand} {K : Value → World → Prop} {X : List PanicEntry → World → Prop} (hs : VS v (fun y => w1.heap.size ≤ y) 3 a c (ints l)) (hx : At v bg (B [i64 g] 3)) (t : Ext w1 v) (hl : l.length ≤ 2 ^ 30)
    (k : ∀ a' c' v', VS v' (fun y => w1.heap.size ≤ y) 3 a' c' (ints (l ++ [g])) → Ext w1 v' → K (.slice a' (ints (l ++ [g])).length c') v') : RUN (.call ⟨.builtin .append, args, #[37, 37]⟩) ty [.slice a (ints l).length c, .slice (some ⟨bg, 0, none⟩) 1 1] v K X := by
  refine RUN.vapp1 (vs := ints l) (v := i64 g) hs hx rfl rfl rfl rfl rfl rfl (by simp [ints]; omega) rfl (fun a' c' v' hv hc => ?_)
  obtain ⟨T, o, q⟩ := hv
  have z := t.size
  have e : ints l ++ [i64 g] = ints (l ++ [g]) := by simp [ints]
  rw [e] at q ⊢
  exact k a' c' v' (VS.fm.mono q fun y _ hy => by rcases o y hy with h | h <;> omega) (t.trans hc (fun y hy hh => by omega))
section
variable {w : World} {S : Nat → Prop} {b : Nat} {x : XS} {L : XL} {A : Cmp}
/-- One more waits. -/
theorem xwait_in {a : Nat} {ai gi : Int} {r : Rw} (Q0 : Side w S (A :: xP b x L)) (hL : XLok x L) (hai : ai = a) (hr : L.ws[a]? = some r) (hl : ∀ l ∈ x.waits, l.length ≤ 2 ^ 30) (hg : ∀ l ∈ x.waits, gi ∉ l) :
    Calls PP 272 #[.pointer (some ⟨b, 6, none⟩), i64 ai, i64 gi] w (fun e w' => e = .returned (i64 0) ∧ (∃ L', XLok { x with waits := x.waits.set a (r.l ++ [gi]) } L' ∧ L'.gl = L.gl ∧ Side w' (Nw w S) (A :: xP b { x with waits := x.waits.set a (r.l ++ [gi]) } L')) ∧ Ch S w w') := by
  subst hai
  have hwl : L.ws.length = 32 := by rw [← hL.wl, ← hL.ws]; simp
  have ha : a < 32 := by rw [← hwl]; exact (List.getElem?_eq_some_iff.1 hr).1
  obtain ⟨S1, s1, Q⟩ := Rn.start Q0
  refine calls_den (fn := Tryz.f272) (args := [_, _, _]) Tryz.func272 rfl (by simp) (fun R hR => ?_)
  refine CLt.no (by omega) ?_
  refine CLt.no (by omega) ?_
  refine LOOP.inv (X := Nat) (fun i => [(0, .pointer (some ⟨b, 6, none⟩)), (1, i64 a), (2, i64 gi), (7, i64 i)]) (fun i w' => i ≤ 32 ∧ Ext w w') (fun i => 32 - i) 0 ⟨rfl, rfl, rfl, rfl, trivial⟩ ⟨Nat.zero_le _, Ext.refl w⟩ ?_
  rintro i w1 ⟨hi, x1⟩ j
  have Q1 := Q.ext x1
  by_cases hlt : i < 32
  · obtain ⟨ri, hri⟩ : ∃ ri, L.ws[i]? = some ri := ⟨_, List.getElem?_eq_getElem (by omega)⟩
    have hm : ri.l ∈ x.waits := by rw [← hL.ws]; exact List.mem_map_of_mem (List.mem_of_getElem? hri)
    refine CLt.yes (by omega) ?_
    refine BD.mk (6 + i * 1) ⟨by omega, by omega, rfl⟩ ?_
    refine RUN.ld (v := ri.v) (Q1.blk 1 rfl) rfl (xC_ws hri) ?_
    have hv : VS w1 S1 3 ri.a ri.c (ints ri.l) := Q1.get (9 + i) (c := cRw ri) (by unfold xP; rw [show 9 + i = (8 + i) + 1 by omega, List.getElem?_cons_succ, List.getElem?_append_right (by simp)]; simp [hri])
    refine CALL.by (rhas_in hv (by have := hl _ hm; omega)) rfl ?_
    rintro e w2 ⟨rfl, x2⟩
    rw [decide_eq_false (hg _ hm)]
    refine ART.add (by omega) (fun r' hr' => ?_)
    subst hr'
    refine Nxt.mk (i + 1) ?_ ?_ ?_
    · exact ⟨rfl, rfl, rfl, rfl, trivial⟩
    · exact ⟨hlt, x1.trans' x2⟩
    · omega
  refine CLt.no (by omega) ?_
  have hm : r.l ∈ x.waits := by rw [← hL.ws]; exact List.mem_map_of_mem (List.mem_of_getElem? hr)
  have hrow : (A :: xP b x L)[9 + a]? = some (cRw r) := by
    unfold xP; rw [show 9 + a = (8 + a) + 1 by omega, List.getElem?_cons_succ, List.getElem?_append_right (by simp)]; simp [hr]
  -- how it ends
  have fin : ∀ {w5 : World} {T : Nat → Prop} {a' : Option Addr} {c' : Nat}, Ext w1 w5 → VS w5 T 3 a' c' (ints (r.l ++ [gi])) → (∀ y, T y → w1.heap.size ≤ y) → ∀ {w6 : World}, Upd w5 w6 b (B ((xC x L).set (6 + a * 1) (.slice a' (ints (r.l ++ [gi])).length c')) 85) →
      (∃ L', XLok { x with waits := x.waits.set a (r.l ++ [gi]) } L' ∧ L'.gl = L.gl ∧ Side w6 (Nw w S) (A :: xP b { x with waits := x.waits.set a (r.l ++ [gi]) } L')) ∧ Ch S w w6 := by
    intro w5 T a' c' x5 hv hT w6 u6
    obtain ⟨Si, si, hP, cl⟩ := Q1.step (9 + a) hrow
    obtain ⟨S2, Q2, _, _⟩ := cl (cRw ⟨a', c', r.l ++ [gi]⟩) x5.ch (fun y hy => .inr (hT y hy)) hv
    have Q3 := Q2.st (b := b) (o := B (xC x L) 85) 1 (by rw [List.getElem?_set_ne (by omega)]; rfl) u6
    have e2 := xP_setw (A := A) (b := b) (x := x) (L := L) (r := ⟨a', c', r.l ++ [gi]⟩) (k := a) (by omega)
    rw [show (Rw.mk a' c' (r.l ++ [gi])).v = .slice a' (ints (r.l ++ [gi])).length c' from rfl] at e2
    rw [e2] at Q3
    exact ⟨⟨{ L with ws := L.ws.set a ⟨a', c', r.l ++ [gi]⟩ }, ⟨hL.gl, by simp [List.map_set, hL.ws], hL.os, by simp [hL.wl]⟩, rfl, Q3.fin⟩, Q3.cc⟩
  have hlr : r.l.length ≤ 2 ^ 30 := hl _ hm
  have hvr : VS w1 S1 3 r.a r.c (ints r.l) := Q1.get (9 + a) hrow
  have z1 := x1.size
  have xl := xC_wlen hL
  refine DRAW.t 15 (.q 0 (.q 1 (.q 3 (.q 4 (.q 5 (.q 6 (.q 7 (.q 8 (.q 10 (.q 13 (.q 14 (.b 2 11 (.b 9 11 (.s 11 (.s 12 .nil)) (.s 9 (.s 12 .nil))) (.s 2 (.s 9 (.s 12 .nil))))))))))))))) (by kernel_rfl) (fun _ _ _ _ _ h => h) ?_
  refine BD.mk (6 + a * 1) ⟨by omega, by omega, rfl⟩ ?_
  refine RUNQ.ld (v := r.v) (Q1.blk 1 rfl) rfl (xC_ws hr) ?_
  refine ⟨?_, ?_⟩
  · intro v2 y2 t2
    refine RUN.buildSlice rfl rfl rfl rfl rfl rfl rfl (fun be v3 n3 => ?_)
    have hbe : w1.heap.size ≤ be := by have := n3.blk; have := t2.size; omega
    have t3 := t2.trans' n3.ext
    refine ⟨t3, ?_, ?_⟩
    · intro v4 y4 t4
      refine RUN.cat0 (y4.at n3.here) (VS.fm.ext hvr t4) t4 hbe hlr (fun a5 c5 v5 q5 t5 _ => ?_)
      refine ⟨t5, ?_⟩
      intro v6 y6 t6
      refine RUN.buildSlice rfl rfl rfl rfl rfl rfl rfl (fun bg v7 n7 => ?_)
      refine ⟨t6.trans' n7.ext, ?_⟩
      intro v8 y8 t8
      refine RUN.snoc1 (VS.fm.ext q5 ((y6.trans' n7.ext).trans' y8)) (y8.at n7.here) t8 hlr (fun a9 c9 v9 q9 t9 => ?_)
      refine ⟨t9, ?_⟩
      intro va ya
      have ta := t9.trans' ya
      refine BD.mk (6 + a * 1) ⟨by omega, by omega, rfl⟩ ?_
      refine RUN.stl ((Q1.ext ta).blk 1 rfl) rfl (by rw [xl]; omega) (fun vb ub => ?_)
      obtain ⟨f1, f2⟩ := fin ta (VS.fm.ext q9 ya) (fun y hy => hy) ub
      exact hR _ _ ⟨rfl, f1, f2⟩
    · intro v4 y4 t4
      refine RUN.buildSlice rfl rfl rfl rfl rfl rfl rfl (fun bg v5 n5 => ?_)
      refine ⟨t4.trans' n5.ext, ?_⟩
      intro v6 y6 t6
      have g6 : At v6 bg (B [i64 gi] 3) := y6.at n5.here
      refine RUN.cat0 (Ext.at ((y4.trans' n5.ext).trans' y6) n3.here) (VS.fm.ext hvr t6) t6 hbe hlr (fun a7 c7 v7 q7 t7 k7 => ?_)
      refine ⟨t7, ?_⟩
      intro v8 y8 t8
      have hne : bg ≠ be := n5.ne (y4.at n3.here) |>.symm
      refine RUN.snoc1 (VS.fm.ext q7 y8) (y8.at (k7.at g6 hne)) t8 hlr (fun a9 c9 v9 q9 t9 => ?_)
      refine ⟨t9, ?_⟩
      intro va ya
      have ta := t9.trans' ya
      refine BD.mk (6 + a * 1) ⟨by omega, by omega, rfl⟩ ?_
      refine RUN.stl ((Q1.ext ta).blk 1 rfl) rfl (by rw [xl]; omega) (fun vb ub => ?_)
      obtain ⟨f1, f2⟩ := fin ta (VS.fm.ext q9 ya) (fun y hy => hy) ub
      exact hR _ _ ⟨rfl, f1, f2⟩
  · intro v2 y2 t2
    refine RUN.buildSlice rfl rfl rfl rfl rfl rfl rfl (fun bg v3 n3 => ?_)
    refine ⟨t2.trans' n3.ext, ?_⟩
    intro v4 y4 t4
    refine RUN.buildSlice rfl rfl rfl rfl rfl rfl rfl (fun be v5 n5 => ?_)
    have hbe : w1.heap.size ≤ be := by have := n5.blk; have := t4.size; omega
    refine ⟨t4.trans' n5.ext, ?_⟩
    intro v6 y6 t6
    have g6 : At v6 bg (B [i64 gi] 3) := Ext.at ((y4.trans' n5.ext).trans' y6) n3.here
    have hne : bg ≠ be := n5.ne (y4.at n3.here)
    refine RUN.cat0 (y6.at n5.here) (VS.fm.ext hvr t6) t6 hbe hlr (fun a7 c7 v7 q7 t7 k7 => ?_)
    refine ⟨t7, ?_⟩
    intro v8 y8 t8
    refine RUN.snoc1 (VS.fm.ext q7 y8) (y8.at (k7.at g6 hne)) t8 hlr (fun a9 c9 v9 q9 t9 => ?_)
    refine ⟨t9, ?_⟩
    intro va ya
    have ta := t9.trans' ya
    refine BD.mk (6 + a * 1) ⟨by omega, by omega, rfl⟩ ?_
    refine RUN.stl ((Q1.ext ta).blk 1 rfl) rfl (by rw [xl]; omega) (fun vb ub => ?_)
    obtain ⟨f1, f2⟩ := fin ta (VS.fm.ext q9 ya) (fun y hy => hy) ub
    exact hR _ _ ⟨rfl, f1, f2⟩
/-- None waits; the first that waits. -/
theorem xwake_none {a : Nat} {ai : Int} {r : Rw} (Q0 : Side w S (A :: xP b x L)) (hL : XLok x L) (hai : ai = a) (hr : L.ws[a]? = some r) (hn : r.l = []) :
    Calls PP 273 #[.pointer (some ⟨b, 6, none⟩), i64 ai] w (Pure w (.tuple #[i64 0, .bool false])) := by
  subst hai
  have hwl : L.ws.length = 32 := by rw [← hL.wl, ← hL.ws]; simp
  have ha : a < 32 := by rw [← hwl]; exact (List.getElem?_eq_some_iff.1 hr).1
  refine calls_den (fn := Tryz.f273) (args := [_, _]) Tryz.func273 rfl (by simp) (fun R hR => ?_)
  refine CLt.no (by omega) ?_
  refine CLt.no (by omega) ?_
  refine BD.mk (6 + a * 1) ⟨by omega, by omega, rfl⟩ ?_
  refine RUN.ld (v := r.v) (Q0.blk 1 rfl) rfl (xC_ws hr) ?_
  refine LEN.mk 0 (by rw [hn]; rfl) ?_
  refine CEq.yes (rfl) ?_
  exact hR _ _ ⟨rfl, Ext.refl w⟩
theorem xwake_in {a : Nat} {ai k : Int} {r : Rw} {t : List Int} (Q0 : Side w S (A :: xP b x L)) (hL : XLok x L) (hai : ai = a) (hr : L.ws[a]? = some r) (hn : r.l = k :: t) :
    Calls PP 273 #[.pointer (some ⟨b, 6, none⟩), i64 ai] w (fun e w' => e = .returned (.tuple #[i64 k, .bool true]) ∧ (∃ L', XLok { x with waits := x.waits.set a t } L' ∧ L'.gl = L.gl ∧ Side w' (Nw w S) (A :: xP b { x with waits := x.waits.set a t } L')) ∧ Ch S w w') := by
  subst hai
  have hwl : L.ws.length = 32 := by rw [← hL.wl, ← hL.ws]; simp
  have ha : a < 32 := by rw [← hwl]; exact (List.getElem?_eq_some_iff.1 hr).1
  obtain ⟨ra, rc, rl⟩ := r
  simp only at hn
  subst hn
  obtain ⟨S1, s1, Q⟩ := Rn.start Q0
  have hrow : (A :: xP b x L)[9 + a]? = some (cRw ⟨ra, rc, k :: t⟩) := by
    unfold xP; rw [show 9 + a = (8 + a) + 1 by omega, List.getElem?_cons_succ, List.getElem?_append_right (by simp)]; simp [hr]
  have hv : VS w S1 3 ra rc (ints (k :: t)) := Q.get (9 + a) hrow
  obtain ⟨vb, vo, pre, post, rfl, h1, h2, h3⟩ := hv.open (by simp [ints])
  have xl := xC_wlen hL
  have hlc : (ints (k :: t)).length ≤ rc := VS.le hv
  refine calls_den (fn := Tryz.f273) (args := [_, _]) Tryz.func273 rfl (by simp) (fun R hR => ?_)
  refine CLt.no (by omega) ?_
  refine CLt.no (by omega) ?_
  refine BD.mk (6 + a * 1) ⟨by omega, by omega, rfl⟩ ?_
  refine RUN.ld (v := .slice (some ⟨vb, vo, none⟩) (ints (k :: t)).length rc) (Q.blk 1 rfl) rfl (xC_ws hr) ?_
  refine LEN.mk ((t.length + 1 : Nat) : Int) (by simp [ints]) ?_
  refine CEq.no (by omega) ?_
  refine BD.mk (6 + a * 1) ⟨by omega, by omega, rfl⟩ ?_
  refine RUN.ld (v := .slice (some ⟨vb, vo, none⟩) (ints (k :: t)).length rc) (Q.blk 1 rfl) rfl (xC_ws hr) ?_
  refine BD.mk (vo + 0 * 1) ⟨by omega, by simp [ints], rfl⟩ ?_
  refine RUN.ld h2 rfl ((app_geti h3 rfl rfl)) ?_
  refine DRAW.q 11 (qs 11 0) (by kernel_rfl) (fun _ _ _ _ _ h => h) ?_
  refine BD.mk (6 + a * 1) ⟨by omega, by omega, rfl⟩ ?_
  refine RUNQ.ld (v := .slice (some ⟨vb, vo, none⟩) (ints (k :: t)).length rc) (Q.blk 1 rfl) rfl (xC_ws hr) ?_
  refine RUNQ.vtail (n := (ints t).length) hlc rfl rfl ?_
  intro w3 x3
  have Q3 := Q.ext x3
  obtain ⟨Si, si, hP, cl⟩ := Q3.step (9 + a) hrow
  obtain ⟨S4, Q4, _, _⟩ := cl (cRw ⟨_, _, t⟩) (Ch.refl _ _) (Own.refl _ _) (VS.tail hP)
  refine BD.mk (6 + a * 1) ⟨by omega, by omega, rfl⟩ ?_
  refine RUN.stl (Q3.blk 1 rfl) rfl (by rw [xl]; omega) (fun w5 u5 => ?_)
  have Q5 := Q4.st (b := b) (o := B (xC x L) 85) 1 (by rw [List.getElem?_set_ne (by omega)]; rfl) u5
  have e2 := xP_setw (A := A) (b := b) (x := x) (L := L) (r := ⟨some ⟨vb, (if (rc : Int) = 1 then vo else vo + 1), none⟩, rc - 1, t⟩) (k := a) (by omega)
  rw [show (Rw.mk (some ⟨vb, (if (rc : Int) = 1 then vo else vo + 1), none⟩) (rc - 1) t).v = .slice (some ⟨vb, (if (rc : Int) = 1 then vo else vo + 1), none⟩) (ints t).length (rc - 1) from rfl] at e2
  rw [e2] at Q5
  exact hR _ _ ⟨rfl, ⟨{ L with ws := L.ws.set a ⟨some ⟨vb, (if (rc : Int) = 1 then vo else vo + 1), none⟩, rc - 1, t⟩ }, ⟨hL.gl, by simp [List.map_set, hL.ws], hL.os, by simp [hL.wl]⟩, rfl, Q5.fin⟩, Q5.cc⟩
end
end Go.E
end
