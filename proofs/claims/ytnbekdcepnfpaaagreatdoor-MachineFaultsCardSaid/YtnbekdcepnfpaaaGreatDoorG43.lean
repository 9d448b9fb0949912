/- Who does what can't be done. -/
import Derived.Test.YtnbekdcepnfpaaaGreatDoorG41
set_option linter.unusedVariables false
set_option linter.unusedSimpArgs false
set_option maxRecDepth 10000
noncomputable section
namespace Go.E
open Go Go.Proofs

theorem faults_ok {k a : Nat} (hk : k ≤ 10) (ha : a ≤ 40) : ∀ l ∈ faultsP k a, 1 ≤ l.length ∧ l.length ≤ 64 ∧ ∀ i ∈ l, okB 1 3 l.length i := by
  intro l hl
  simp only [faultsP, List.mem_cons, List.not_mem_nil, or_false] at hl
  rcases hl with rfl | rfl | rfl
  · refine ⟨by simp, by simp; omega, fun i hi => ?_⟩
    simp only [List.mem_append, List.mem_map, List.mem_range, List.mem_cons, List.not_mem_nil, or_false] at hi
    rcases hi with ⟨j, hj, rfl⟩ | rfl
    · (simp [okB]; try omega)
    · simp [okB]
  · refine ⟨by simp, by simp; omega, fun i hi => ?_⟩
    simp only [List.mem_append, List.mem_replicate, List.mem_cons, List.not_mem_nil, or_false] at hi
    rcases hi with ⟨_, rfl⟩ | rfl | rfl <;> simp [okB]
  · refine ⟨by simp, by simp, fun i hi => ?_⟩
    simp only [List.mem_cons, List.not_mem_nil, or_false] at hi
    rcases hi with rfl | rfl <;> simp [okB]
theorem faults_good {k a : Nat} (hk : k ≤ 10) (ha : a ≤ 40) : GoodP 1 (faultsP k a) := good_of (by decide) (by simp [faultsP]) (fun l hl => faults_ok hk ha l hl)
theorem faults_plain {k a : Nat} {s : Core × List Cmt} (h : LJ (fTop k a) (fLoc a) s) : ∀ z ∈ s.1.gs, z.st = 1 → plainI (faultsP k a).length (instAt (faultsP k a) z.f z.pc) := by
  intro z hz h1
  have h3 : (faultsP k a).length = 3 := rfl
  rw [h3]
  obtain ⟨g, hg⟩ := List.getElem?_of_mem hz
  rcases Nat.eq_zero_or_pos g with rfl | h0
  · obtain ⟨x, hx, hf, _⟩ := h.top
    rw [hg] at hx
    cases hx
    rw [hf, faults_i0]
    split
    · exact .inr (.inr (.inr (.inr (.inr (.inr (.inl ⟨rfl, (by show 1 + z.pc % 2 < 3; omega), (by show 0 < 16; omega)⟩))))))
    · exact .inl rfl
  · obtain ⟨_, _, h⟩ := h.loc g z h0 hg
    rcases h with ⟨hf, _, h⟩ | ⟨hf, _, h⟩
    · have hp := (h.resolve_right (by rw [h1]; simp)).2.1
      rw [hf, faults_i1 k a z.pc hp]
      split
      · exact .inr (.inr (.inr (.inr (.inl ⟨rfl, (by show 2 < 16; omega), (by show 3 < 16; omega)⟩))))
      · exact .inr (.inr (.inr (.inl ⟨rfl, (by show 1 < 16; omega), (by show 9 < 16; omega), (by show 0 < 256; omega)⟩)))
    · have hp := (h.resolve_right (by rw [h1]; simp)).2.1
      rw [hf]
      have : z.pc = 0 ∨ z.pc = 1 ∨ z.pc = 2 := by omega
      rcases this with h | h | h <;> rw [h]
      · exact .inr (.inl rfl)
      · exact .inr (.inl rfl)
      · exact .inl rfl
theorem spawns_app (i : Nat) : (List.range i).map (fun i => (⟨8, 1 + i % 2, 0, 0⟩ : In)) ++ [⟨8, 1 + i % 2, 0, 0⟩] = (List.range (i + 1)).map (fun i => (⟨8, 1 + i % 2, 0, 0⟩ : In)) := by
  rw [List.range_succ]; simp
theorem faults_law {ps words : Int} {f1 f2 : Nat} {n m : Int} (w : World) : Calls PP 12 #[.agg (cfgV ps words f1 f2).toArray, i64 n, i64 m] w (fun e w' => e = .returned (.bool true) ∧ Ext w w') := by
  have hu := u64_bd n
  have hu2 := u64_bd m
  refine calls_sem (fn := Tryz.f12) (args := [_, _, _]) Tryz.func12 rfl (by simp) (fun R hR => ?_)
  refine SEM.cut (X := Nat × Nat × Nat × Nat × XS × MS × WS × Nat) 8 (fun t => [(7, i64 t.1), (8, i64 t.2.1), (13, pt t.2.2.1)])
    (fun t w' => t.1 ≤ 10 ∧ t.2.1 ≤ 40 ∧ Ext w w' ∧ (∃ S mb xb aa ac, (∀ y, S y → w.heap.size ≤ y) ∧ Side w' S (wP t.2.2.1 mb xb aa ac t.2.2.2.2.2.1 t.2.2.2.2.1 t.2.2.2.2.2.2.1)) ∧ WRun (LJ (fTop t.1 t.2.1) (fLoc t.2.1)) (faultsP t.1 t.2.1) t.2.2.2.2.2.2.2 t.2.2.2.2.2.1 t.2.2.2.2.1 t.2.2.2.2.2.2.1) rfl ?_ ?_
  · refine RUN.box (fun b3 w1 n1 => ?_)
    refine CVI.mk (IntKind.wrap .u64 n) rfl ?_
    refine ART.urem (by omega) (by omega) (by omega) (fun r1 g1 => ?_)
    refine CVI.i64 (by omega) (fun r2 g2 => ?_)
    refine ART.add (by omega) (fun kk hk => ?_)
    refine CVI.mk (IntKind.wrap .u64 m) rfl ?_
    refine ART.urem (by omega) (by omega) (by omega) (fun r3 g3 => ?_)
    refine CVI.i64 (by omega) (fun r4 g4 => ?_)
    obtain ⟨k, rfl⟩ : ∃ k : Nat, kk = k := ⟨kk.toNat, by omega⟩
    obtain ⟨a, rfl⟩ : ∃ a : Nat, r4 = a := ⟨r4.toNat, by omega⟩
    have hk10 : k ≤ 10 := by omega
    have ha40 : a ≤ 40 := by omega
    clear hk g4 g3 g2 g1 hu hu2
    have z1 := n1.here.lt
    refine LOOP.inv (X := Nat × Option Addr × Nat) (fun t => [(3, pt b3), (7, i64 k), (8, i64 a), (9, .slice t.2.1 (List.replicate t.1 (⟨4, 2, 3, 0⟩ : In)).length t.2.2), (10, i64 t.1)])
      (fun t w' => t.1 ≤ a ∧ MSl w' (fun y => w1.heap.size ≤ y) 33 4 t.2.1 t.2.2 ((List.replicate t.1 (⟨4, 2, 3, 0⟩ : In)).map inC) ∧ Ext w1 w') (fun t => a - t.1) (0, none, 0) ⟨rfl, rfl, rfl, rfl, rfl, trivial⟩ ⟨Nat.zero_le _, MSl.nil _ _ _ _, Ext.refl _⟩ ?_
    rintro ⟨i, sa, sc⟩ w2 ⟨hi, m2, x2⟩ j2
    simp only at hi m2
    by_cases hlt : i < a
    · refine CLt.yes (by omega) ?_
      refine RUN.buildSlice rfl rfl rfl rfl rfl rfl rfl (fun be w3 n3 => ?_)
      refine RUN.incat (l := List.replicate i (⟨4, 2, 3, 0⟩ : In)) (l2 := [(⟨4, 2, 3, 0⟩ : In)]) (MSl.fm.ext m2 n3.ext) (MSl.lit (l := [(⟨4, 2, 3, 0⟩ : In)]) (S := fun _ => True) n3.here trivial rfl) (by simp; omega) (fun a' c' v' hv hc => ?_)
      obtain ⟨S', o, q⟩ := hv
      rw [rep_app] at q ⊢
      refine ART.add (by omega) (fun r hr => ?_)
      subst hr
      have z := x2.size
      have z3 := n3.ext.size
      refine Nxt.mk ((i + 1, a', c')) ?_ ?_ ?_
      · exact ⟨rfl, rfl, rfl, rfl, rfl, trivial⟩
      · exact ⟨hlt, MSl.fm.mono q fun y _ hy => by rcases o y hy with h | h <;> omega, (x2.trans' n3.ext).trans hc (fun y hy hh => by omega)⟩
      · show a - (i + 1) < a - i
        omega
    have hik : i = a := by omega
    subst hik
    refine CLt.no (by omega) ?_
    refine RUN.buildSlice rfl rfl rfl rfl rfl rfl rfl (fun be w3 n3 => ?_)
    refine RUN.incat (l := List.replicate i (⟨4, 2, 3, 0⟩ : In)) (l2 := [(⟨2, 1, 9, 0⟩ : In), (⟨7, 0, 0, 0⟩ : In)]) (MSl.fm.ext m2 n3.ext) (MSl.lit (l := [(⟨2, 1, 9, 0⟩ : In), (⟨7, 0, 0, 0⟩ : In)]) (S := fun _ => True) n3.here trivial rfl) (by simp; omega) (fun ba bc w4 hv hc4 => ?_)
    obtain ⟨Sb, ob, mb4⟩ := hv
    have z2 := x2.size
    have z3 := n3.ext.size
    have x4 : Ext w1 w4 := (x2.trans' n3.ext).trans hc4 (fun y hy hh => by omega)
    have z4 := x4.size
    -- the bad one is never written again
    have mbad : MSl w4 (fun y => w1.heap.size ≤ y ∧ y < w4.heap.size) 33 4 ba bc ((List.replicate i (⟨4, 2, 3, 0⟩ : In) ++ [(⟨2, 1, 9, 0⟩ : In), (⟨7, 0, 0, 0⟩ : In)]).map inC) := MSl.fm.mono mb4 fun y hy hs => ⟨by rcases ob y hs with h | h <;> omega, hy⟩
    refine LOOP.inv (X := Nat × Option Addr × Nat) (fun t => [(3, pt b3), (7, i64 k), (8, i64 i), (9, .slice ba (List.replicate i (⟨4, 2, 3, 0⟩ : In) ++ [(⟨2, 1, 9, 0⟩ : In), (⟨7, 0, 0, 0⟩ : In)]).length bc), (11, .slice t.2.1 ((List.range t.1).map (fun i => (⟨8, 1 + i % 2, 0, 0⟩ : In))).length t.2.2), (12, i64 t.1)])
      (fun t w' => t.1 ≤ k ∧ MSl w' (fun y => w4.heap.size ≤ y) 33 4 t.2.1 t.2.2 (((List.range t.1).map (fun i => (⟨8, 1 + i % 2, 0, 0⟩ : In))).map inC) ∧ Ext w4 w') (fun t => k - t.1) (0, none, 0) ⟨rfl, rfl, rfl, rfl, rfl, rfl, trivial⟩ ⟨Nat.zero_le _, MSl.nil _ _ _ _, Ext.refl _⟩ ?_
    rintro ⟨j, sa, sc⟩ w5 ⟨hj, m5, x5⟩ j5
    simp only at hj m5
    have z5 := x5.size
    by_cases hlt : j < k
    · refine CLt.yes (by omega) ?_
      refine ART.rem (by omega) (by omega) (fun r1 g1 => ?_)
      refine ART.add (by omega) (fun r2 g2 => ?_)
      have e2 : r2 = ((1 + j % 2 : Nat) : Int) := by omega
      subst e2
      refine RUN.buildSlice rfl rfl rfl rfl rfl rfl rfl (fun be w6 n6 => ?_)
      refine RUN.incat (l := (List.range j).map (fun i => (⟨8, 1 + i % 2, 0, 0⟩ : In))) (l2 := [(⟨8, 1 + j % 2, 0, 0⟩ : In)]) (MSl.fm.ext m5 n6.ext) (MSl.lit (l := [(⟨8, 1 + j % 2, 0, 0⟩ : In)]) (S := fun _ => True) n6.here trivial rfl) (by simp; omega) (fun a' c' v' hv hc => ?_)
      obtain ⟨S', o, q⟩ := hv
      rw [spawns_app] at q ⊢
      refine ART.add (by omega) (fun r hr => ?_)
      subst hr
      have z6 := n6.ext.size
      refine Nxt.mk ((j + 1, a', c')) ?_ ?_ ?_
      · exact ⟨rfl, rfl, rfl, rfl, rfl, rfl, trivial⟩
      · exact ⟨hlt, MSl.fm.mono q fun y _ hy => by rcases o y hy with h | h <;> omega, (x5.trans' n6.ext).trans hc (fun y hy hh => by omega)⟩
      · show k - (j + 1) < k - j
        omega
    have hjk : j = k := by omega
    subst hjk
    refine CLt.no (by omega) ?_
    have zw := n1.ext.size
    have xw4 : Ext w w4 := n1.ext.trans' x4
    have g3 : At w5 b3 (B (cfgV ps words f1 f2) 24) := Ext.at (x4.trans' x5) n1.here
    have hb3 := n1.blk
    have n4z := hc4.size
    have hside : Side w5 (fun y => w.heap.size ≤ y ∧ y < w5.heap.size) [cMSl 33 4 sa sc (((List.range j).map (fun i => (⟨8, 1 + i % 2, 0, 0⟩ : In))).map inC), cMSl 33 4 ba bc ((List.replicate i (⟨4, 2, 3, 0⟩ : In) ++ [(⟨2, 1, 9, 0⟩ : In), (⟨7, 0, 0, 0⟩ : In)]).map inC), cAt b3 (B (cfgV ps words f1 f2) 24)] := by
      refine ⟨fun y => if w4.heap.size ≤ y then 0 else if y = b3 then 2 else 1, fun n c hn => ?_⟩
      rcases n with _ | _ | _ | n
      · simp only [List.getElem?_cons_zero, Option.some.injEq] at hn
        subst hn
        exact MSl.fm.mono m5 fun y hy hs => ⟨⟨by omega, hy⟩, if_pos hs⟩
      · simp only [List.getElem?_cons_succ, List.getElem?_cons_zero, Option.some.injEq] at hn
        subst hn
        refine MSl.fm.mono (MSl.fm.ext mbad x5) fun y hy hs => ⟨⟨by omega, hy⟩, ?_⟩
        show (if w4.heap.size ≤ y then 0 else if y = b3 then 2 else 1) = 1
        rw [if_neg (by omega), if_neg (by omega)]
      · simp only [List.getElem?_cons_succ, List.getElem?_cons_zero, Option.some.injEq] at hn
        subst hn
        refine ⟨⟨⟨by omega, by omega⟩, ?_⟩, g3⟩
        show (if w4.heap.size ≤ b3 then 0 else if b3 = b3 then 2 else 1) = 2
        rw [if_neg (by omega), if_pos rfl]
      · simp at hn
    obtain ⟨T0, _, Q0⟩ := Rn.start hside
    refine DRAW.cut (X := Nat) (fun wb => [(7, i64 j), (8, i64 i), (13, pt wb)])
      (fun wb w' => Ext w w' ∧ ∃ S mb xb aa ac σ x V n, (∀ y, S y → w.heap.size ≤ y) ∧ Side w' S (wP wb mb xb aa ac σ x V) ∧ WRun (LJ (fTop j i) (fLoc i)) (faultsP j i) n σ x V ∧ n ≤ 6 ∧ σ.steps ≤ 0) ?_ ?_
    · have newF : ∀ {v : World} {S' : Nat → Prop} {Ps : List Cmp} {b8 bF a4c : Nat} {a4 : Option Addr} (i8 iF : Nat), Rn w5 (fun y => w.heap.size ≤ y ∧ y < w5.heap.size) v S' Ps → Ps[0]? = some (cMSl 33 4 a4 a4c (((List.range j).map (fun i => (⟨8, 1 + i % 2, 0, 0⟩ : In)) ++ [(⟨0, 0, 0, 0⟩ : In)]).map inC)) →
          Ps[1]? = some (cMSl 33 4 ba bc ((List.replicate i (⟨4, 2, 3, 0⟩ : In) ++ [(⟨2, 1, 9, 0⟩ : In), (⟨7, 0, 0, 0⟩ : In)]).map inC)) → Ps[i8]? = some (cAt b8 (B (([(⟨9, 0, 0, 0⟩ : In), (⟨9, 0, 0, 0⟩ : In)] : List In).map inC).flatten 33)) →
          Ps[iF]? = some (cAt bF (B [.slice a4 ((List.range j).map (fun i => (⟨8, 1 + i % 2, 0, 0⟩ : In)) ++ [(⟨0, 0, 0, 0⟩ : In)]).length a4c, .slice ba (List.replicate i (⟨4, 2, 3, 0⟩ : In) ++ [(⟨2, 1, 9, 0⟩ : In), (⟨7, 0, 0, 0⟩ : In)]).length bc, .slice (some ⟨b8, 0, none⟩) 2 2] 34)) →
          Calls PP 19 #[.agg (cfgV ps words f1 f2).toArray, .agg (progV 1 (faultsP j i) (some ⟨bF, 0, none⟩) 3).toArray] v (fun e w' => ∃ wb, e = .returned (pt wb) ∧ Ext w w' ∧ ∃ S mb xb aa ac σ x V n, (∀ y, S y → w.heap.size ≤ y) ∧ Side w' S (wP wb mb xb aa ac σ x V) ∧ WRun (LJ (fTop j i) (fLoc i)) (faultsP j i) n σ x V ∧ n ≤ 6 ∧ σ.steps ≤ 0) := by
        intro v S' Ps b8 bF a4c a4 i8 iF R h0 h1 h8 hF
        have hS : ∀ y, S' y → w.heap.size ≤ y := fun y hy => by rcases R.oo y hy with h | h <;> omega
        have xv : Ext w v := (xw4.trans' x5).trans R.cc (fun y hy hh => by omega)
        have hFn : FnAt v S' (some ⟨bF, 0, none⟩) 3 (faultsP j i) := FnAt.three (R.get 0 h0) (R.get 1 h1) (MSl.lit (R.get i8 h8).2 (R.get i8 h8).1 rfl) (R.get iF hF).2 (R.get iF hF).1
        refine (new_in hFn (faults_good hk10 ha40)).mono ?_
        rintro e w7 ⟨wb, bs, pct, nn, rfl, hn, hn1, hn2, hp1, hp2, hbl, ⟨mb, xb, aa, ac, q7⟩, c7⟩
        have zv := xv.size
        obtain ⟨O, hc0⟩ := wok0 (g := 1) (fs := faultsP j i) (bs := bs) (ps := fitPs ps) (words := fitWords words) (n := nn) (pct := pct) (f1 := f1) (f2 := f2) ⟨by simp [faultsP], by simp [faultsP]⟩ (by omega) (by omega) hbl
        refine ⟨wb, rfl, xv.trans c7 (fun y hy hh => by have := hS y hh; omega), _, mb, xb, aa, ac, _, _, _, bs.length, fun y hy => by rcases hy with hy | hy; exact hS y hy; omega, q7, ⟨O, rfl, by show (bs.map prc0).length = _; simp, ?_, by show (0 : Int) ≤ _; decide⟩, by omega, Int.le_refl _⟩
        rw [hc0]
        refine ⟨rfl, fun _ => rfl, fun c hc => by simp [σ0, spawnF, readyF, ms0] at hc, ⟨_, rfl, rfl, by simp [byG, σ0, spawnF, readyF, ms0], rfl, .inl ⟨rfl, rfl, Nat.zero_le _, rfl⟩⟩, fun g z hg hz => ?_⟩
        rcases g with _ | g
        · omega
        · simp [core0] at hz
      refine DRAW.tk 11 (.q 0 (.q 1 (.q 2 (.q 5 (.q 6 (.q 7 (.b 3 8 (.b 4 8 (.s 8 (.s 9 (.s 10 .nil))) (.s 4 (.s 9 (.s 10 .nil)))) (.s 3 (.s 4 (.s 9 (.s 10 .nil))))))))))) [b3] (by kernel_rfl) (fun _ _ _ _ _ h => absurd h.1 (by simp)) ?_
      refine RUNQ.klda (vs := cfgV ps words f1 f2) (Q0.blk 2 rfl) (by simp) rfl (Nat.le_of_ble_eq_true rfl) rfl ?_
      refine ⟨?_, ?_⟩
      · intro v1 y1 t1
        refine RUN.buildSlice rfl rfl rfl rfl rfl rfl rfl (fun be v1' nA => ?_)
        refine ⟨Keep.ext _ _ _ _ t1 nA.ext, ?_⟩
        obtain ⟨T1, Q1, _⟩ := (Q0.ext y1).add1 nA
        refine ⟨?_, ?_⟩
        · intro v2 y2 t2
          have R2 := Q1.ext y2
          obtain ⟨Si2, si2, hn2, hP2, cl2⟩ := R2.stepN 0 rfl
          refine RUN.incat (l := (List.range j).map (fun i => (⟨8, 1 + i % 2, 0, 0⟩ : In))) (l2 := [(⟨0, 0, 0, 0⟩ : In)]) hP2 (MSl.lit (l := [(⟨0, 0, 0, 0⟩ : In)]) (S := fun _ => True) (R2.blk 3 rfl) trivial rfl) (by simp; omega) (fun a4 c4 v2' hv4 hc4' => ?_)
          obtain ⟨S4, o4, q4⟩ := hv4
          obtain ⟨T2, Q2⟩ := cl2 (cMSl 33 4 a4 c4 (((List.range j).map (fun i => (⟨8, 1 + i % 2, 0, 0⟩ : In)) ++ [(⟨0, 0, 0, 0⟩ : In)]).map inC)) hc4' o4 q4
          refine ⟨Keep.ch t2 hc4' (fun y hy _ hh => by simp at hy; exact hn2 2 _ _ rfl (by decide) (hy ▸ hh)), ?_⟩
          intro v3 y3 t3
          refine RUN.buildSlice rfl rfl rfl rfl rfl rfl rfl (fun b8 v3' nB => ?_)
          refine ⟨Keep.ext _ _ _ _ t3 nB.ext, ?_⟩
          obtain ⟨T3, Q3, _⟩ := (Q2.ext y3).add1 nB
          intro u1 z1' r1
          refine RUN.buildSlice rfl rfl rfl rfl rfl rfl rfl (fun bF u2 m2' => ?_)
          refine ⟨Keep.ext _ _ _ _ r1 m2'.ext, ?_⟩
          obtain ⟨T9, P9, _⟩ := (Q3.ext z1').add1 m2'
          intro u3 z3' r3
          refine CALL.by (one_in) rfl ?_
          rintro e u4 ⟨rfl, xa⟩
          refine ⟨Keep.ext _ _ _ _ r3 xa, ?_⟩
          intro u5 z5'
          refine CALL.by (newF (4 : Nat) (5 : Nat) (((P9.ext z3').ext xa).ext z5') rfl rfl rfl rfl) rfl ?_
          rintro e u6 ⟨wb, rfl, hP⟩
          exact ⟨rfl, rfl, wb, ⟨rfl, rfl, rfl, trivial⟩, hP⟩
        · intro v2 y2 t2
          refine RUN.buildSlice rfl rfl rfl rfl rfl rfl rfl (fun b8 v2' nB => ?_)
          refine ⟨Keep.ext _ _ _ _ t2 nB.ext, ?_⟩
          obtain ⟨T2, Q2, _⟩ := (Q1.ext y2).add1 nB
          intro v3 y3 t3
          have R3 := Q2.ext y3
          obtain ⟨Si3, si3, hn3, hP3, cl3⟩ := R3.stepN 0 rfl
          refine RUN.incat (l := (List.range j).map (fun i => (⟨8, 1 + i % 2, 0, 0⟩ : In))) (l2 := [(⟨0, 0, 0, 0⟩ : In)]) hP3 (MSl.lit (l := [(⟨0, 0, 0, 0⟩ : In)]) (S := fun _ => True) (R3.blk 3 rfl) trivial rfl) (by simp; omega) (fun a4 c4 v3' hv4 hc4' => ?_)
          obtain ⟨S4, o4, q4⟩ := hv4
          obtain ⟨T3, Q3⟩ := cl3 (cMSl 33 4 a4 c4 (((List.range j).map (fun i => (⟨8, 1 + i % 2, 0, 0⟩ : In)) ++ [(⟨0, 0, 0, 0⟩ : In)]).map inC)) hc4' o4 q4
          refine ⟨Keep.ch t3 hc4' (fun y hy _ hh => by simp at hy; exact hn3 2 _ _ rfl (by decide) (hy ▸ hh)), ?_⟩
          intro u1 z1' r1
          refine RUN.buildSlice rfl rfl rfl rfl rfl rfl rfl (fun bF u2 m2' => ?_)
          refine ⟨Keep.ext _ _ _ _ r1 m2'.ext, ?_⟩
          obtain ⟨T9, P9, _⟩ := (Q3.ext z1').add1 m2'
          intro u3 z3' r3
          refine CALL.by (one_in) rfl ?_
          rintro e u4 ⟨rfl, xa⟩
          refine ⟨Keep.ext _ _ _ _ r3 xa, ?_⟩
          intro u5 z5'
          refine CALL.by (newF (4 : Nat) (5 : Nat) (((P9.ext z3').ext xa).ext z5') rfl rfl rfl rfl) rfl ?_
          rintro e u6 ⟨wb, rfl, hP⟩
          exact ⟨rfl, rfl, wb, ⟨rfl, rfl, rfl, trivial⟩, hP⟩
      · intro v1 y1 t1
        refine RUN.buildSlice rfl rfl rfl rfl rfl rfl rfl (fun b8 v1' nB => ?_)
        refine ⟨Keep.ext _ _ _ _ t1 nB.ext, ?_⟩
        obtain ⟨T1, Q1, _⟩ := (Q0.ext y1).add1 nB
        intro v2 y2 t2
        refine RUN.buildSlice rfl rfl rfl rfl rfl rfl rfl (fun be v2' nA => ?_)
        refine ⟨Keep.ext _ _ _ _ t2 nA.ext, ?_⟩
        obtain ⟨T2, Q2, _⟩ := (Q1.ext y2).add1 nA
        intro v3 y3 t3
        have R3 := Q2.ext y3
        obtain ⟨Si3, si3, hn3, hP3, cl3⟩ := R3.stepN 0 rfl
        refine RUN.incat (l := (List.range j).map (fun i => (⟨8, 1 + i % 2, 0, 0⟩ : In))) (l2 := [(⟨0, 0, 0, 0⟩ : In)]) hP3 (MSl.lit (l := [(⟨0, 0, 0, 0⟩ : In)]) (S := fun _ => True) (R3.blk 4 rfl) trivial rfl) (by simp; omega) (fun a4 c4 v3' hv4 hc4' => ?_)
        obtain ⟨S4, o4, q4⟩ := hv4
        obtain ⟨T3, Q3⟩ := cl3 (cMSl 33 4 a4 c4 (((List.range j).map (fun i => (⟨8, 1 + i % 2, 0, 0⟩ : In)) ++ [(⟨0, 0, 0, 0⟩ : In)]).map inC)) hc4' o4 q4
        refine ⟨Keep.ch t3 hc4' (fun y hy _ hh => by simp at hy; exact hn3 2 _ _ rfl (by decide) (hy ▸ hh)), ?_⟩
        intro u1 z1' r1
        refine RUN.buildSlice rfl rfl rfl rfl rfl rfl rfl (fun bF u2 m2' => ?_)
        refine ⟨Keep.ext _ _ _ _ r1 m2'.ext, ?_⟩
        obtain ⟨T9, P9, _⟩ := (Q3.ext z1').add1 m2'
        intro u3 z3' r3
        refine CALL.by (one_in) rfl ?_
        rintro e u4 ⟨rfl, xa⟩
        refine ⟨Keep.ext _ _ _ _ r3 xa, ?_⟩
        intro u5 z5'
        refine CALL.by (newF (3 : Nat) (5 : Nat) (((P9.ext z3').ext xa).ext z5') rfl rfl rfl rfl) rfl ?_
        rintro e u6 ⟨wb, rfl, hP⟩
        exact ⟨rfl, rfl, wb, ⟨rfl, rfl, rfl, trivial⟩, hP⟩
    rintro wb w6 ⟨xw6, S6, mb, xb, aa, ac, σ1, x1, V1, nb, hS6, q6, J6, hnb, hst⟩ j6
    have zw6 := xw6.size
    refine RUN.ld (q6.blk 0 rfl) rfl (rfl) ?_
    refine CALL.by (wrun_in q6 J6 hnb (by omega) hst (fun s s' h1 h2 => faults_step (by omega) h1 h2) (fun s h1 => faults_plain h1)) rfl ?_
    rintro e w8 ⟨σ', x', V', rfl, q8, c8, J8, _⟩
    exact ⟨rfl, (j, i, wb, mb, x', σ', V', nb), ⟨rfl, rfl, rfl, trivial⟩, hk10, ha40, xw6.trans c8 (fun y hy hh => by have := hS6 y hh; omega), ⟨_, _, _, _, _, fun y hy => by rcases hy with hy | hy; exact hS6 y hy; omega, q8⟩, J8⟩
  rintro ⟨k, a, wb, _, x', σ', V', nb⟩ w1 ⟨hk10, ha40, x01, ⟨S, mb, xb, aa, ac, hSw, q1⟩, J⟩ j1
  simp only at hk10 ha40 q1 J
  have hM : MAt w1 S mb σ' := q1.get 1 rfl
  refine SEM.of ?_
  refine RUN.ld (q1.blk 0 rfl) rfl (rfl) ?_
  refine CALL.by (status_in hM) rfl ?_
  rintro e w2 ⟨rfl, x2⟩
  by_cases h0 : statusF σ' = 0
  · refine CEq.yes (h0) ?_
    refine CALL.by (told_in w2) rfl ?_
    rintro e w3 ⟨rfl, x3⟩
    exact hR _ _ ⟨rfl, (x01.trans' x2).trans' x3⟩
  have hall := LJ.st J.p (fun _ _ _ h => fTop_st h) (fun _ _ _ h => fLoc_st h)
  obtain ⟨h1, h5⟩ := done_of J hall h0
  obtain ⟨hnf, hne, hok⟩ := faults_end J.p h5
  have q2 := Side.fm.ext q1 x2
  refine CEq.no (h0) ?_
  refine RUN.ld (q2.blk 0 rfl) rfl (rfl) ?_
  refine CALL.by (status_in (MAt.fm.ext hM x2)) rfl ?_
  rintro e w3 ⟨rfl, x3⟩
  have q3 := Side.fm.ext q2 x3
  refine CEq.yes (h1) ?_
  have hcml : (σ'.commits.length : Int) ≤ 2 ^ 40 := by have := J.ok.inv.cm; have := J.stb; omega
  refine LOOP.inv (X := Nat) (fun i => [(7, i64 k), (8, i64 a), (13, pt wb), (14, i64 (nP isF (σ'.commits.take i))), (15, i64 (nP isE (σ'.commits.take i))), (16, i64 i)]) (fun i w' => i ≤ σ'.commits.length ∧ Side w' S (wP wb mb xb aa ac σ' x' V') ∧ Ext w w') (fun i => σ'.commits.length - i) 0 ⟨rfl, rfl, rfl, rfl, rfl, rfl, trivial⟩ ⟨Nat.zero_le _, q3, (x01.trans' x2).trans' x3⟩ ?_
  rintro i w5 ⟨hi, q5, x05⟩ j5
  refine RUN.ld (q5.blk 0 rfl) rfl (rfl) ?_
  refine CALL.by (mcommits_in (q5.get 1 rfl : MAt w5 S mb σ')) rfl ?_
  rintro e w6 ⟨rfl, x6⟩
  have q6 := Side.fm.ext q5 x6
  by_cases hlt : i < σ'.commits.length
  · obtain ⟨c, hc⟩ : ∃ c, σ'.commits[i]? = some c := ⟨_, List.getElem?_eq_getElem hlt⟩
    obtain ⟨hc7, hcf⟩ := hok c (List.mem_of_getElem? hc)
    refine CLt.yes ((by omega)) ?_
    refine RUN.ld (q6.blk 0 rfl) rfl (rfl) ?_
    refine CALL.by (mcommit_in (j := i) (q6.get 1 rfl : MAt w6 S mb σ') rfl hc) rfl ?_
    rintro e w7 ⟨rfl, x7⟩
    refine RUN.alloc rfl rfl (fun b17 w8 n8 => ?_)
    refine RUN.sta (vs := cmC c) n8.here rfl (by simp [cmC]) (by simp [cmC, Value.oneCell']) (fun w9 u9 => ?_)
    have x69 : Ext w6 w9 := x7.trans' (n8.ext.trans u9.ch (fun y hy hb => by have := n8.blk; omega))
    have q9 := Side.fm.ext q6 x69
    have g9 := u9.here
    have hts : (σ'.commits.take i).length ≤ σ'.commits.length := by simp; omega
    have hl1 := nP_len isE (σ'.commits.take i)
    have hl2 := nP_len isF (σ'.commits.take i)
    have e1 := nP_app isE (σ'.commits.take i) c
    have e2 := nP_app isF (σ'.commits.take i) c
    rw [← cmts_take hc] at e1 e2
    have x09 := (x05.trans' x6).trans' x69
    rcases hft : c.fault with _ | _
    · have hf : ¬ isF c = true := by simp [isF, hft]
      rw [if_neg hf] at e2
      refine RUN.ld (v := .bool false) g9 rfl (by show some (Value.bool c.fault) = _; rw [hft]) ?_
      refine RUN.ld g9 rfl (show _ = some (i64 c.op) from rfl) ?_
      by_cases h0' : c.op = 0
      · have he : isE c = true := by simp [isE, h0']
        rw [if_pos he] at e1
        refine CEq.yes (by omega) ?_
        refine ART.add (by omega) (fun r1 hr1 => ?_)
        refine RUN.ld g9 rfl (show _ = some (i64 c.op) from rfl) ?_
        refine CEq.no (by omega) ?_
        refine ART.add (by omega) (fun r2 hr2 => ?_)
        refine Nxt.mk (i + 1) ?_ ?_ ?_
        · refine ⟨rfl, rfl, rfl, by rw [e2]; rfl, ?_, by subst hr2; rfl, trivial⟩
          show i64 r1 = _
          rw [e1, hr1]; simp
        · exact ⟨hlt, q9, x09⟩
        · omega
      · have he : ¬ isE c = true := by simp [isE, h0']
        rw [if_neg he] at e1
        refine CEq.no (by omega) ?_
        refine RUN.ld g9 rfl (show _ = some (i64 c.op) from rfl) ?_
        refine CEq.no (by omega) ?_
        refine ART.add (by omega) (fun r2 hr2 => ?_)
        refine Nxt.mk (i + 1) ?_ ?_ ?_
        · exact ⟨rfl, rfl, rfl, by rw [e2]; rfl, by rw [e1]; rfl, by subst hr2; rfl, trivial⟩
        · exact ⟨hlt, q9, x09⟩
        · omega
    · obtain ⟨f1', f2', f3', f4'⟩ := hcf hft
      have hf : isF c = true := by simp [isF, hft]
      have he : ¬ isE c = true := by simp [isE, f3']
      rw [if_pos hf] at e2
      rw [if_neg he] at e1
      refine RUN.ld (v := .bool true) g9 rfl (by show some (Value.bool c.fault) = _; rw [hft]) ?_
      refine ART.add (by omega) (fun r1 hr1 => ?_)
      refine RUN.ld g9 rfl (show _ = some (i64 c.f) from rfl) ?_
      refine CEq.yes (by omega) ?_
      refine RUN.ld g9 rfl (show _ = some (i64 c.pc) from rfl) ?_
      refine CEq.yes (by omega) ?_
      refine RUN.ld g9 rfl (show _ = some (i64 c.op) from rfl) ?_
      refine CEq.yes (by omega) ?_
      refine RUN.ld g9 rfl (show _ = some (i64 c.value) from rfl) ?_
      refine CEq.yes (by omega) ?_
      refine RUN.ld g9 rfl (show _ = some (i64 c.op) from rfl) ?_
      refine CEq.no (by omega) ?_
      refine RUN.ld g9 rfl (show _ = some (i64 c.op) from rfl) ?_
      refine CEq.no (by omega) ?_
      refine ART.add (by omega) (fun r2 hr2 => ?_)
      refine Nxt.mk (i + 1) ?_ ?_ ?_
      · refine ⟨rfl, rfl, rfl, ?_, by rw [e1]; rfl, by subst hr2; rfl, trivial⟩
        show i64 r1 = _
        rw [e2, hr1]; simp
      · exact ⟨hlt, q9, x09⟩
      · omega
  have hil : i = σ'.commits.length := by omega
  subst hil
  refine CLt.no (by omega) ?_
  refine CALL.by (told_in _) rfl ?_
  rintro e w7 ⟨rfl, x7⟩
  rw [List.take_length]
  refine ART.add (by omega) (fun a1 h1' => ?_)
  refine ART.quo (by omega) (by omega) (by omega) (fun a2 h2' => ?_)
  refine CEq.yes ((by rw [hnf]; omega)) ?_
  refine ART.quo (by omega) (by omega) (by omega) (fun a3 h3' => ?_)
  refine ART.add (by omega) (fun a4 h4' => ?_)
  refine CEq.yes ((by rw [hne]; omega)) ?_
  exact hR _ _ ⟨rfl, (x05.trans' x6).trans' x7⟩
end Go.E
end
