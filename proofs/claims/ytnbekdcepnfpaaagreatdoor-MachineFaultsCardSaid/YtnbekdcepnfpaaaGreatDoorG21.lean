/- The share: whatever it says, it says something. -/
import Derived.Test.YtnbekdcepnfpaaaGreatDoorG11
import Derived.Test.YtnbekdcepnfpaaaGreatDoorG20
import Derived.Test.YtnbekdcepnfpaaaGreatDoorG17
import Derived.Test.YtnbekdcepnfpaaaGreatDoorG18
set_option linter.unusedVariables false
set_option maxRecDepth 10000
noncomputable section
namespace Go.E
open Go Go.Proofs

theorem ART.any {K : Int → Prop} {op : BinOp} {kd : IntKind} {a b : Int} (h : ∃ z, artV op kd a b = some z) (k : ∀ r, K r) : ART op kd a b K := by
  obtain ⟨z, hz⟩ := h
  exact .mk z hz (k z)
theorem CVI.any {K : Int → Prop} {kd : IntKind} {a : Int} (k : ∀ r, K r) : CVI kd a K := .mk _ rfl (k _)
theorem neg_run {kd : IntKind} {a : Int} (w : World) : ∃ r, (Op.unary .neg (.int kd a)).run PP w = .ok (.int kd r) w := ⟨_, rfl⟩
theorem RUN.neg {t : TypeId} {x : Operand} {ty : TypeId} {w : World} {K : Value → World → Prop} {X : List PanicEntry → World → Prop} {kd : IntKind} {a : Int} (k : ∀ r, K (.int kd r) w) : RUN (.unOp .neg t x) ty [.int kd a] w K X := by
  obtain ⟨r, hr⟩ := neg_run (kd := kd) (a := a) w
  exact .ok _ w hr (k r)
theorem art_mul (kd : IntKind) (a b : Int) : ∃ z, artV .mul kd a b = some z := ⟨_, rfl⟩
theorem art_add (kd : IntKind) (a b : Int) : ∃ z, artV .add kd a b = some z := ⟨_, rfl⟩
theorem art_sub (kd : IntKind) (a b : Int) : ∃ z, artV .sub kd a b = some z := ⟨_, rfl⟩
theorem art_and (kd : IntKind) (a b : Int) : ∃ z, artV .and kd a b = some z := ⟨_, rfl⟩
theorem art_or (kd : IntKind) (a b : Int) : ∃ z, artV .or kd a b = some z := ⟨_, rfl⟩
theorem art_shl {kd : IntKind} {a b : Int} (h : 0 ≤ b) : ∃ z, artV .shl kd a b = some z := ⟨_, by simp only [artV]; rw [if_neg (by omega)]⟩
theorem art_shr {kd : IntKind} {a b : Int} (h : 0 ≤ b) : ∃ z, artV .shr kd a b = some z := ⟨_, by simp only [artV]; rw [if_neg (by omega)]⟩
def AnyI (kd : IntKind) (w : World) : Ending → World → Prop := fun e w' => (∃ r, e = .returned (.int kd r)) ∧ Ext w w'
def AnyB (w : World) : Ending → World → Prop := fun e w' => (∃ r, e = .returned (.bool r)) ∧ Ext w w'
theorem size_any (a : Int) (w : World) : Calls PP 283 #[i64 a] w (AnyI .u64 w) := by
  refine calls_den (fn := Tryz.f283) (args := [_]) Tryz.func283 rfl (by simp) (fun R hR => ?_)
  by_cases h : a < 0
  · refine CLt.yes (by omega) ?_
    refine CVI.any (fun r => ?_)
    refine RUN.neg (fun r => ?_)
    exact hR _ _ ⟨⟨_, rfl⟩, Ext.refl w⟩
  · refine CLt.no (by omega) ?_
    refine CVI.any (fun r => ?_)
    exact hR _ _ ⟨⟨_, rfl⟩, Ext.refl w⟩
theorem mul64_any (a b : Int) (w : World) : Calls PP 290 #[u64 a, u64 b] w (fun e w' => (∃ x y, e = .returned (.tuple #[u64 x, u64 y])) ∧ Ext w w') := by
  refine calls_den (fn := Tryz.f290) (args := [_, _]) Tryz.func290 rfl (by simp) (fun R hR => ?_)
  refine ART.any (art_and _ _ _) (fun x0 => ?_)
  refine ART.any (art_shr (by decide)) (fun x1 => ?_)
  refine ART.any (art_and _ _ _) (fun y0 => ?_)
  refine ART.any (art_shr (by decide)) (fun y1 => ?_)
  refine ART.any (art_mul _ _ _) (fun w0 => ?_)
  refine ART.any (art_mul _ _ _) (fun t => ?_)
  refine ART.any (art_shr (by decide)) (fun t2 => ?_)
  refine ART.any (art_add _ _ _) (fun t3 => ?_)
  refine ART.any (art_and _ _ _) (fun w1 => ?_)
  refine ART.any (art_shr (by decide)) (fun w2 => ?_)
  refine ART.any (art_mul _ _ _) (fun p => ?_)
  refine ART.any (art_add _ _ _) (fun p2 => ?_)
  refine ART.any (art_mul _ _ _) (fun p3 => ?_)
  refine ART.any (art_add _ _ _) (fun p4 => ?_)
  refine ART.any (art_shr (by decide)) (fun p5 => ?_)
  refine ART.any (art_add _ _ _) (fun s => ?_)
  refine ART.any (art_mul _ _ _) (fun s2 => ?_)
  exact hR _ _ ⟨⟨_, _, rfl⟩, Ext.refl w⟩
theorem edge_any (b : Bool) (w : World) : Calls PP 282 #[.bool b] w (AnyI .i64 w) := by
  cases b
  · refine calls_den (fn := Tryz.f282) (args := [_]) Tryz.func282 rfl (by simp) (fun R hR => ?_)
    exact hR _ _ ⟨⟨_, rfl⟩, Ext.refl w⟩
  · refine calls_den (fn := Tryz.f282) (args := [_]) Tryz.func282 rfl (by simp) (fun R hR => ?_)
    exact hR _ _ ⟨⟨_, rfl⟩, Ext.refl w⟩
theorem made_pos (hi lo : Int) (m : Bool) (w : World) : Calls PP 285 #[u64 hi, u64 lo, .bool false, .bool m] w (AnyI .i64 w) := by
  refine calls_den (fn := Tryz.f285) (args := [_, _, _, _]) Tryz.func285 rfl (by simp) (fun R hR => ?_)
  by_cases h1 : 0 < hi
  · refine CLt.yes (h1) ?_
    refine CALL.by (edge_any false w) rfl ?_
    rintro e w1 ⟨⟨r, rfl⟩, x1⟩
    exact hR _ _ ⟨⟨_, rfl⟩, x1⟩
  · refine CLt.no (h1) ?_
    by_cases h2 : 9223372036854775808 < lo
    · refine CLt.yes (h2) ?_
      refine CALL.by (edge_any false w) rfl ?_
      rintro e w1 ⟨⟨r, rfl⟩, x1⟩
      exact hR _ _ ⟨⟨_, rfl⟩, x1⟩
    · refine CLt.no (h2) ?_
      by_cases h3 : lo = 9223372036854775808
      · refine CEq.yes (h3) ?_
        refine CALL.by (edge_any false w) rfl ?_
        rintro e w1 ⟨⟨r, rfl⟩, x1⟩
        exact hR _ _ ⟨⟨_, rfl⟩, x1⟩
      · refine CEq.no (h3) ?_
        refine CVI.any (fun r => ?_)
        exact hR _ _ ⟨⟨_, rfl⟩, Ext.refl w⟩
theorem mul_any {a b : Int} (ha : 0 ≤ a) (hb : 0 ≤ b) (w : World) : Calls PP 208 #[i64 a, i64 b] w (AnyI .i64 w) := by
  refine calls_den (fn := Tryz.f208) (args := [_, _]) Tryz.func208 rfl (by simp) (fun R hR => ?_)
  refine CALL.by (size_any a w) rfl ?_
  rintro e w1 ⟨⟨r1, rfl⟩, x1⟩
  refine CALL.by (size_any b w1) rfl ?_
  rintro e w2 ⟨⟨r2, rfl⟩, x2⟩
  refine CALL.by (mul64_any r1 r2 w2) rfl ?_
  rintro e w3 ⟨⟨p, q, rfl⟩, x3⟩
  refine ART.any (art_shr (by decide)) (fun s1 => ?_)
  refine ART.any (art_shl (by decide)) (fun s2 => ?_)
  refine ART.any (art_shr (by decide)) (fun s3 => ?_)
  refine ART.any (art_or _ _ _) (fun s4 => ?_)
  refine CLt.no (by omega) ?_
  refine CLt.no (by omega) ?_
  refine ART.any (art_and _ _ _) (fun s5 => ?_)
  by_cases h : s5 = 0
  · refine CEq.yes (h) ?_
    refine CALL.by (made_pos s1 s4 false w3) rfl ?_
    rintro e w4 ⟨⟨r, rfl⟩, x4⟩
    exact hR _ _ ⟨⟨_, rfl⟩, ((x1.trans' x2).trans' x3).trans' x4⟩
  · refine CEq.no (h) ?_
    refine CALL.by (made_pos s1 s4 true w3) rfl ?_
    rintro e w4 ⟨⟨r, rfl⟩, x4⟩
    exact hR _ _ ⟨⟨_, rfl⟩, ((x1.trans' x2).trans' x3).trans' x4⟩
theorem clampT_in (a : Int) (w : World) : Calls PP 207 #[i64 a] w (Pure w (i64 (min (max a 0) 1099511627776))) := by
  refine calls_den (fn := Tryz.f207) (args := [_]) Tryz.func207 rfl (by simp) (fun R hR => ?_)
  refine RUN.max2 (fun r hr => ?_)
  refine RUN.min2 (fun s hs => ?_)
  subst hr hs
  exact hR _ _ ⟨rfl, Ext.refl w⟩
/-- Whether a P may. -/
theorem smay_any {a b c : Int} (ha : 0 ≤ a ∧ a < 16777215) (hb : 0 ≤ b ∧ b < 16777215) (hc : 0 ≤ c) (w : World) : Calls PP 153 #[i64 a, i64 b, i64 c] w (AnyB w) := by
  refine calls_den (fn := Tryz.f153) (args := [_, _, _]) Tryz.func153 rfl (by simp) (fun R hR => ?_)
  refine CALL.by (clampT_in a w) rfl ?_
  rintro e w1 ⟨rfl, x1⟩
  refine CALL.by (clampT_in b w1) rfl ?_
  rintro e w2 ⟨rfl, x2⟩
  rw [show min (max a 0) 1099511627776 = a by omega, show min (max b 0) 1099511627776 = b by omega]
  refine ART.add (by omega) (fun r hr => ?_)
  refine CALL.by (whole_in (by omega) w2) rfl ?_
  rintro e w3 ⟨rfl, x3⟩
  refine CALL.by (mul_any (by omega) hc w3) rfl ?_
  rintro e w4 ⟨⟨n, rfl⟩, x4⟩
  refine ART.add (by omega) (fun r' hr' => ?_)
  refine CALL.by (whole_in (by omega) w4) rfl ?_
  rintro e w5 ⟨rfl, x5⟩
  have x05 := (((x1.trans' x2).trans' x3).trans' x4).trans' x5
  by_cases h : n < r' * 1048576
  · refine CLt.yes (h) ?_
    exact hR _ _ ⟨⟨_, rfl⟩, x05⟩
  · refine CLt.no (h) ?_
    exact hR _ _ ⟨⟨_, rfl⟩, x05⟩
theorem sbounds_in (a b : Int) (w : World) : Calls PP 288 #[i64 a, i64 b] w (Pure w (.tuple #[i64 (min (max a 1) 64), i64 (min (max b 0) 1048576)])) := by
  refine calls_den (fn := Tryz.f288) (args := [_, _]) Tryz.func288 rfl (by simp) (fun R hR => ?_)
  refine RUN.max2 (fun r hr => ?_)
  refine RUN.min2 (fun s hs => ?_)
  refine RUN.max2 (fun r' hr' => ?_)
  refine RUN.min2 (fun s' hs' => ?_)
  subst hr hs hr' hs'
  exact hR _ _ ⟨rfl, Ext.refl w⟩
theorem ART.shr {K : Int → Prop} {x y : Int} (n : Nat) (hn : n ≤ 64) (hy : y = n) (k : ∀ r, r = x / (2 ^ n : Nat) → K r) : ART .shr .i64 x y K := by
  refine .mk (x / (2 ^ n : Nat)) ?_ (k _ rfl)
  subst hy
  simp only [artV]
  rw [if_neg (by omega)]
  have e : min (n : Int).toNat (IntKind.bits .i64) = n := by
    have : IntKind.bits .i64 = 64 := rfl
    rw [this]; omega
  rw [e]
  have : x.fdiv (2 ^ n) = x / (2 ^ n : Nat) := by
    rw [Int.fdiv_eq_ediv_of_nonneg _ (Int.le_of_lt (Int.pow_pos (by decide)))]; simp
  rw [this]
theorem int_in (a : Int) (w : World) : Calls PP 289 #[i64 a] w (Pure w (i64 (a / 1048576))) := by
  refine calls_den (fn := Tryz.f289) (args := [_]) Tryz.func289 rfl (by simp) (fun R hR => ?_)
  refine ART.shr 20 (by decide) rfl (fun r hr => ?_)
  subst hr
  exact hR _ _ ⟨rfl, Ext.refl w⟩
theorem workers_any (a b : Int) (w : World) : Calls PP 206 #[i64 a, i64 b] w (fun e w' => (∃ x y, e = .returned (.tuple #[i64 x, i64 y])) ∧ Ext w w') := by
  refine calls_den (fn := Tryz.f206) (args := [_, _]) Tryz.func206 rfl (by simp) (fun R hR => ?_)
  refine CALL.by (sbounds_in a b w) rfl ?_
  rintro e w1 ⟨rfl, x1⟩
  generalize hp : min (max a 1) 64 = p
  generalize hq : min (max b 0) 1048576 = q
  have h1 : 1 ≤ p ∧ p ≤ 64 := by omega
  have h2 : 0 ≤ q ∧ q ≤ 1048576 := by omega
  have h3 : 0 ≤ p * q := Int.mul_nonneg (by omega) h2.1
  have h4 : p * q ≤ 64 * 1048576 := Int.mul_le_mul h1.2 h2.2 h2.1 (by decide)
  clear hp hq
  refine ART.mul (by omega) (fun r hr => ?_)
  subst hr
  generalize p * q = m at *
  refine CALL.by (int_in m w1) rfl ?_
  rintro e w2 ⟨rfl, x2⟩
  refine CALL.by (whole_in (by omega) w2) rfl ?_
  rintro e w3 ⟨rfl, x3⟩
  refine ART.sub (by omega) (fun s hs => ?_)
  refine CALL.by (whole_in (by omega) w3) rfl ?_
  rintro e w4 ⟨rfl, x4⟩
  refine CALL.by (div_in (by omega) (by omega) w4) rfl ?_
  rintro e w5 ⟨rfl, x5⟩
  exact hR _ _ ⟨⟨_, _, rfl⟩, (((x1.trans' x2).trans' x3).trans' x4).trans' x5⟩
theorem dedicated_any (a b c : Int) (w : World) : Calls PP 152 #[i64 a, i64 b, i64 c] w (AnyB w) := by
  refine calls_den (fn := Tryz.f152) (args := [_, _, _]) Tryz.func152 rfl (by simp) (fun R hR => ?_)
  refine CALL.by (workers_any b c w) rfl ?_
  rintro e w1 ⟨⟨x, y, rfl⟩, x1⟩
  by_cases h : a < 0
  · refine CLt.yes (h) ?_
    exact hR _ _ ⟨⟨_, rfl⟩, x1⟩
  · refine CLt.no (h) ?_
    by_cases h2 : a < x
    · refine CLt.yes (h2) ?_
      exact hR _ _ ⟨⟨_, rfl⟩, x1⟩
    · refine CLt.no (h2) ?_
      exact hR _ _ ⟨⟨_, rfl⟩, x1⟩
end Go.E
end
/- The collector is off. -/
set_option linter.unusedVariables false
set_option linter.unusedSimpArgs false
set_option maxRecDepth 10000
noncomputable section
namespace Go.E
open Go Go.Proofs

/-- The collector is off, and nothing asks for it. -/
structure OffS (σ : MS) (live : Int) : Prop where
  ph : σ.ph.phase = 0
  force : σ.force ≤ σ.ph.cycle
  hl : HpLive σ.hp live
  bg : beginF σ.goal live = false
  part : 0 ≤ σ.part
section
variable {w : World} {S : Nat → Prop} {b : Nat} {σ : MS}
theorem wanted_no {live : Int} {p : Int} (h : MAt w S b σ) (ho : OffS σ live) : Calls PP 154 #[pt b, i64 p] w (Pure w (.bool false)) := by
  obtain ⟨L, sd⟩ := h
  refine calls_den (fn := Tryz.f154) (args := [_, _]) Tryz.func154 rfl (by simp) (fun R hR => ?_)
  refine DRAW.q 24 [(0, .q), (1, .q), (2, .q), (3, .q), (4, .q), (5, .q), (6, .q), (7, .q), (8, .s), (9, .q), (10, .q), (11, .q), (12, .q), (13, .q), (14, .q), (15, .q), (16, .s), (17, .s), (18, .q), (19, .q), (20, .q), (21, .q), (22, .q), (23, .q)] (by kernel_rfl) (fun _ _ _ _ _ h => h) ?_
  refine RUNQ.ld (sd.blk 0 rfl) rfl (rfl) ?_
  refine RUNQ.ld (sd.blk 0 rfl) rfl (rfl) ?_
  intro w1 x1 _
  have Q1 := Side.fm.ext sd x1
  refine CALL.by (cycle_in (Q1.get 12 rfl)) rfl ?_
  rintro e w2 ⟨rfl, x2⟩
  refine ⟨x1.trans' x2, ?_⟩
  have hf := ho.force
  refine CLt.no (by omega) ?_
  refine RUNQ.lda (vs := [i64 σ.goal.trig, i64 σ.goal.goal, i64 σ.goal.ratio]) (sd.blk 0 rfl) rfl (Nat.le_of_ble_eq_true rfl) rfl ?_
  intro w3 x3 y3
  refine CALL.by (mlive_in (MAt.fm.ext ⟨L, sd⟩ y3) ho.hl) rfl ?_
  rintro e w4 ⟨rfl, x4⟩
  refine ⟨y3.trans' x4, ?_⟩
  intro w5 x5 y5
  refine CALL.by (pbegin_in w5) rfl ?_
  rintro e w6 ⟨rfl, x6⟩
  refine ⟨y5.trans' x6, ?_⟩
  rw [ho.bg]
  intro w7 x7
  exact hR _ _ ⟨rfl, (y5.trans' x6).trans' x7⟩
theorem cut_off {K : Prop} (h : K) : K := h
/-- With the collector off nothing is done for it. -/
theorem collect_off {live : Int} {p : Nat} {pi : Int} {x : Prc} (h : MAt w S b σ) (ho : OffS σ live) (hpi : pi = p) (hx : σ.ps[p]? = some x) (hw : 0 ≤ x.worked ∧ x.worked < 16777215) (ha : 0 ≤ x.all ∧ x.all < 16777215) :
    Calls PP 105 #[pt b, i64 pi] w (Pure w (.tuple #[.agg #[i64 0, i64 0, i64 0], .bool false])) := by
  subst hpi
  obtain ⟨L, sd⟩ := h
  obtain ⟨S1, s1, Q⟩ := Rn.start sd
  obtain ⟨pb, hpb⟩ := Q.pat hx
  obtain ⟨sb, so, pre, post, he, r1, r2, r3, hpl⟩ := Q.psl hpb
  refine calls_sem (fn := Tryz.f105) (args := [_, _]) Tryz.func105 rfl (by simp) (fun R hR => ?_)
  refine SEM.cut (X := Nat × Bool) 2 (fun t => [(0, pt b), (1, i64 p), (4, pt t.1), (5, .bool false), (6, pt pb), (7, .bool t.2)])
    (fun t w' => Ext w w' ∧ At w' t.1 (B [i64 0, i64 0, i64 0] 58) ∧ w.heap.size ≤ t.1) rfl ?_ ?_
  · refine RUN.alloc rfl rfl (fun b4 w1 n1 => ?_)
    obtain ⟨Q1, f4, nf4, lf4⟩ := Q.fresh n1
    refine RUN.ld (Q1.blk 0 rfl) rfl ((mC_ps he)) ?_
    refine BD.mk (so + p * 1) (by first | exact ⟨by decide, by decide, rfl⟩ | exact ⟨by omega, by omega, by omega⟩) ?_
    refine RUN.ld (n1.ext.at r2) rfl ((app_get r3 (pts_get hpb) rfl)) ?_
    refine DRAW.q 24 [(0, .q), (1, .q), (2, .q), (3, .q), (4, .q), (5, .q), (6, .q), (7, .q), (8, .q), (9, .q), (10, .s), (11, .q), (12, .q), (13, .q), (14, .q), (15, .q), (16, .q), (17, .q), (18, .q), (19, .q), (20, .q), (21, .q), (22, .q), (23, .q)] (by kernel_rfl) (fun _ _ _ _ _ h => h) ?_
    refine RUNQ.ld (Q1.blk 0 rfl) rfl ((mC_ps he)) ?_
    refine LEN.mk ((pts L.pb).length : Int) rfl ?_
    refine RUNQ.ld (Q1.blk 0 rfl) rfl (rfl) ?_
    intro w2 x2 y2
    refine CALL.by (dedicated_any p _ σ.part w2) rfl ?_
    rintro e w3 ⟨⟨r, rfl⟩, x3⟩
    refine ⟨y2.trans' x3, ?_⟩
    cases r
    · refine RUNQ.ld (Q1.prc hx hpb) rfl (rfl) ?_
      refine RUNQ.ld (Q1.prc hx hpb) rfl (rfl) ?_
      refine RUNQ.ld (Q1.blk 0 rfl) rfl (rfl) ?_
      intro w4 x4
      have y4 := (y2.trans' x3).trans' x4
      have Q4 := Q1.ext y4
      refine CALL.by (smay_any hw ha ho.part w4) rfl ?_
      rintro e w5 ⟨⟨r, rfl⟩, x5⟩
      have y5 := y4.trans' x5
      have Q5 := Q4.ext x5
      cases r
      · refine RUN.ld (Q5.prc hx hpb) rfl (rfl) ?_
        refine ART.rem (by omega) (by omega) (fun m hm => ?_)
        by_cases h0 : m = 0
        · refine CEq.yes (h0) ?_
          exact ⟨rfl, (b4, true), ⟨rfl, rfl, rfl, rfl, rfl, rfl, trivial⟩, n1.ext.trans' y5, Ext.at y5 f4, lf4⟩
        · refine CEq.no (h0) ?_
          exact ⟨rfl, (b4, false), ⟨rfl, rfl, rfl, rfl, rfl, rfl, trivial⟩, n1.ext.trans' y5, Ext.at y5 f4, lf4⟩
      · exact ⟨rfl, (b4, true), ⟨rfl, rfl, rfl, rfl, rfl, rfl, trivial⟩, n1.ext.trans' y5, Ext.at y5 f4, lf4⟩
    · intro w4 x4
      have y4 := (y2.trans' x3).trans' x4
      exact ⟨rfl, (b4, true), ⟨rfl, rfl, rfl, rfl, rfl, rfl, trivial⟩, n1.ext.trans' y4, Ext.at y4 f4, lf4⟩
  · rintro ⟨b4, t⟩ w1 ⟨x1, f4, lf4⟩ j
    refine SEM.of ?_
    have Q1 := Q.ext x1
    simp only at f4
    refine RUN.ld (Q1.blk 0 rfl) rfl (rfl) ?_
    refine CALL.by (phase_in (Q1.get 12 rfl)) rfl ?_
    rintro e w2 ⟨rfl, x2⟩
    have Q2 := Q1.ext x2
    refine CEq.yes (ho.ph) ?_
    refine CALL.by (wanted_no ⟨L, Q2.fin⟩ ho) rfl ?_
    rintro e w3 ⟨rfl, x3⟩
    have Q3 := Q2.ext x3
    refine DRAW.q 6 [(0, .q), (1, .q), (2, .q), (3, .q), (4, .q), (5, .s)] (by kernel_rfl) (fun _ _ _ _ _ h => h) ?_
    refine RUNQ.lda (vs := [i64 σ.goal.trig, i64 σ.goal.goal, i64 σ.goal.ratio]) (Q3.blk 0 rfl) rfl (Nat.le_of_ble_eq_true rfl) rfl ?_
    intro w4 x4 y4
    refine CALL.by (mlive_in (MAt.fm.ext ⟨L, Q3.fin⟩ y4) ho.hl) rfl ?_
    rintro e w5 ⟨rfl, x5⟩
    refine ⟨y4.trans' x5, ?_⟩
    intro w6 x6
    refine CALL.by (pbegin_in w6) rfl ?_
    rintro e w7 ⟨rfl, x7⟩
    rw [ho.bg]
    have y7 := (((y4.trans' x5).trans' x6).trans' x7)
    refine RUN.sta (vs := [i64 0, i64 0, i64 0]) (Ext.at y7 (x3.at (x2.at f4))) rfl (by simp) (by simp [Value.oneCell']) (fun w8 u8 => ?_)
    refine RUN.lda (vs := [i64 0, i64 0, i64 0]) u8.here rfl (Nat.le_of_ble_eq_true rfl) rfl ?_
    refine ⟨rfl, hR _ _ ⟨rfl, ((((x1.trans' x2).trans' x3).trans' y7)).trans u8.ch (fun y hy hb => by omega)⟩⟩
theorem work_off {p : Int} {c : Int} (h : MAt w S b σ) (ho : σ.ph.phase = 0) : Calls PP 108 #[pt b, i64 p, i64 c] w (Pure w (.bool false)) := by
  obtain ⟨L, sd⟩ := h
  refine calls_den (fn := Tryz.f108) (args := [_, _, _]) Tryz.func108 rfl (by simp) (fun R hR => ?_)
  refine RUN.ld (sd.blk 0 rfl) rfl (rfl) ?_
  refine CALL.by (phase_in (sd.get 12 rfl)) rfl ?_
  rintro e w1 ⟨rfl, x1⟩
  refine CEq.no (by omega) ?_
  refine CEq.no (by omega) ?_
  exact hR _ _ ⟨rfl, x1⟩
end
end Go.E
end
/- Some of the parts are handed on as one. -/
set_option linter.unusedVariables false
set_option linter.unusedSimpArgs false
set_option maxRecDepth 10000
noncomputable section
namespace Go.E
open Go Go.Proofs

theorem Rn.split {w0 w : World} {S0 S : Nat → Prop} {Ps Bs : List Cmp} (Q : Rn w0 S0 w S (Ps ++ Bs)) :
    ∃ Sm : Nat → Prop, (∀ y, Sm y → S y ∧ y < w.heap.size) ∧ Side w Sm Ps ∧ ∀ {w' : World} {Qs : List Cmp}, Qs.length = Ps.length → Ch Sm w w' → Side w' (Nw w Sm) Qs → ∃ S', Rn w0 S0 w' S' (Qs ++ Bs) ∧ (∀ y, y < w.heap.size → ¬ S y → ¬ S' y) := by
  obtain ⟨col, hs⟩ := Q.sd
  have bd := Q.bd
  refine ⟨fun y => (S y ∧ y < w.heap.size) ∧ col y < Ps.length, fun y hy => hy.1, ⟨col, fun i c hi => ?_⟩, fun {w' Qs} hl hc hsd => ?_⟩
  · have hil := (List.getElem?_eq_some_iff.1 hi).1
    have := hs i c (by rw [List.getElem?_append_left hil]; exact hi)
    exact c.fm.mono this fun y hy hh => ⟨⟨⟨hh.1, hy⟩, by rw [hh.2]; exact hil⟩, hh.2⟩
  · obtain ⟨col', hs'⟩ := hsd
    have hz := hc.size
    have hz0 := Q.cc.size
    refine ⟨fun y => ((S y ∧ y < w.heap.size) ∨ w.heap.size ≤ y) ∧ y < w'.heap.size, ⟨?_, ?_, fun y hy => hy.2, fun y => if y < w.heap.size ∧ Ps.length ≤ col y then col y else if col' y < Qs.length then col' y else Ps.length + Bs.length, fun i c hi => ?_⟩, ?_⟩
    · exact Q.cc.sub hc fun y hy => Q.oo y hy.1.1
    · rintro y ⟨hy | hy, _⟩
      · exact Q.oo y hy.1
      · exact .inr (by omega)
    · by_cases hil : i < Qs.length
      · rw [List.getElem?_append_left hil] at hi
        refine c.fm.mono (hs' i c hi) fun y hy hh => ?_
        obtain ⟨h1, h2⟩ := hh
        rcases h1 with h1 | h1
        · refine ⟨⟨.inl h1.1, hy⟩, ?_⟩
          show (if y < w.heap.size ∧ Ps.length ≤ col y then col y else if col' y < Qs.length then col' y else Ps.length + Bs.length) = i
          rw [if_neg (by rintro ⟨_, h⟩; have := h1.2; omega), if_pos (by omega), h2]
        · refine ⟨⟨.inr h1, hy⟩, ?_⟩
          show (if y < w.heap.size ∧ Ps.length ≤ col y then col y else if col' y < Qs.length then col' y else Ps.length + Bs.length) = i
          rw [if_neg (by rintro ⟨h, _⟩; omega), if_pos (by omega), h2]
      · rw [List.getElem?_append_right (by omega)] at hi
        have hib := (List.getElem?_eq_some_iff.1 hi).1
        have h1 := hs i c (by rw [List.getElem?_append_right (by omega), ← hl]; exact hi)
        refine c.fm.to h1 hc fun y hy hh => ⟨fun hh' => by have := hh'.2; omega, ⟨.inl ⟨hh.1, hy⟩, by omega⟩, ?_⟩
        show (if y < w.heap.size ∧ Ps.length ≤ col y then col y else if col' y < Qs.length then col' y else Ps.length + Bs.length) = i
        have h3 := hh.2
        rw [if_pos ⟨hy, by omega⟩, h3]
    · rintro y hy hn ⟨hh | hh, _⟩
      · exact hn hh.1
      · omega
/-- The last parts in another order. -/
theorem Rn.permR {w0 w : World} {S0 S : Nat → Prop} {Ps As Bs : List Cmp} (h : Rn w0 S0 w S (Ps ++ As)) (js : List Nat) (hl : Bs.length = js.length) (hn : (List.range js.length).all (fun i => js.idxOf (js.getD i 0) == i) = true)
    (hB : ∀ i c, Bs[i]? = some c → As[js.getD i 0]? = some c) : Rn w0 S0 w S (Ps ++ Bs) := by
  refine h.pick (fun i => if i < Ps.length then i else Ps.length + js.getD (i - Ps.length) 0) (fun j => if j < Ps.length then j else Ps.length + js.idxOf (j - Ps.length)) (fun i c hi => ?_) fun i hi => ?_
  · by_cases hil : i < Ps.length
    · show (Ps ++ As)[if i < Ps.length then i else _]? = _
      rw [if_pos hil, List.getElem?_append_left hil]
      rwa [List.getElem?_append_left hil] at hi
    · show (Ps ++ As)[if i < Ps.length then i else _]? = _
      rw [List.getElem?_append_right (by omega)] at hi
      rw [if_neg hil, List.getElem?_append_right (by omega), Nat.add_sub_cancel_left]
      exact hB _ _ hi
  · by_cases hil : i < Ps.length
    · show (if (if i < Ps.length then i else _) < Ps.length then (if i < Ps.length then i else _) else _) = i
      rw [if_pos hil, if_pos hil]
    · show (if (if i < Ps.length then i else Ps.length + js.getD (i - Ps.length) 0) < Ps.length then (if i < Ps.length then i else Ps.length + js.getD (i - Ps.length) 0) else Ps.length + js.idxOf ((if i < Ps.length then i else Ps.length + js.getD (i - Ps.length) 0) - Ps.length)) = i
      rw [if_neg hil, if_neg (by omega), Nat.add_sub_cancel_left]
      rw [List.length_append] at hi
      have := List.all_eq_true.1 hn (i - Ps.length) (List.mem_range.2 (by omega))
      have e : js.idxOf (js.getD (i - Ps.length) 0) = i - Ps.length := by simpa using this
      rw [e]; omega
/-- One part turns; blocks that are other parts are not its own. -/
theorem Rn.stepN {w0 w : World} {S0 S : Nat → Prop} {Ps : List Cmp} {c : Cmp} (h : Rn w0 S0 w S Ps) (i : Nat) (hi : Ps[i]? = some c) :
    ∃ Si : Nat → Prop, (∀ y, Si y → S y) ∧ (∀ (j : Nat) (x : Nat) (o : Obj), Ps[j]? = some (cAt x o) → j ≠ i → ¬ Si x) ∧ c.P w Si ∧ ∀ {w' : World} {Si' : Nat → Prop} (c' : Cmp), Ch Si w w' → Own w Si Si' → c'.P w' Si' →
      ∃ S', Rn w0 S0 w' S' (Ps.set i c') := by
  obtain ⟨col, hs⟩ := h.sd
  refine ⟨fun y => (S y ∧ y < w.heap.size) ∧ col y = i, fun y hy => hy.1.1, fun j x o hj hne hh => hne ((hs j _ hj).1.2.symm.trans hh.2), c.fm.mono (hs i c hi) fun y hy hs => ⟨⟨hs.1, hy⟩, hs.2⟩, ?_⟩
  intro w' Si' c' hc ho hP
  refine ⟨fun y => ((S y ∧ y < w.heap.size) ∨ (w.heap.size ≤ y ∧ Si' y)) ∧ y < w'.heap.size, h.cc.sub hc (fun y hy => h.oo y hy.1.1), ?_, fun y hy => hy.2, fun y => if y < w.heap.size then col y else i, fun j x hj => ?_⟩
  · rintro y ⟨hy | hy, _⟩
    · exact h.oo y hy.1
    · have := h.cc.size; exact .inr (by omega)
  · have hz := hc.size
    rcases set_get hj with ⟨rfl, rfl⟩ | ⟨hne, hj⟩
    · refine x.fm.mono hP fun y hy hs => ?_
      rcases ho y hs with h1 | h1
      · exact ⟨⟨.inl h1.1, hy⟩, (if_pos h1.1.2).trans h1.2⟩
      · exact ⟨⟨.inr ⟨h1, hs⟩, hy⟩, if_neg (by omega)⟩
    · refine x.fm.to (hs j x hj) hc fun y hy hs => ⟨fun hh => hne (hs.2.symm.trans hh.2), ⟨.inl ⟨hs.1, hy⟩, by omega⟩, (if_pos hy).trans hs.2⟩
theorem RUNQ.klda {w : World} {ty : TypeId} {K : Value → Prop} {t : TypeId} {x : Operand} {b o : Nat} {cs vs : List Value} {T : TypeId} {bs : List Nat} (hb : At w b (B cs T)) (hm : b ∈ bs) (h1 : (inTau t && (tau t).agg) = true) (ho : o + (tau t).size ≤ cs.length) (hv : (cs.drop o).take (tau t).size = vs) (k : K (.agg vs.toArray)) :
    RUNQ (Keep w bs) (.load t x) ty [.pointer (some ⟨b, o, none⟩)] K := by
  simp only [Bool.and_eq_true] at h1
  exact .mk _ (fun w' hs => loadA_run h1.1 h1.2 (hs.at hm hb) ho hv) k
end Go.E
end
/- A machine with boxes beside it; what is put off in a commit. -/
set_option linter.unusedVariables false
set_option linter.unusedSimpArgs false
set_option maxRecDepth 10000
noncomputable section
namespace Go.E
open Go Go.Proofs

section
variable {w0 w w' : World} {S0 S : Nat → Prop} {b : Nat} {σ : MS} {L : ML} {bx : List Cmp}
theorem Rn.bpslen (R : Rn w0 S0 w S (mP b σ L ++ bx)) : L.pb.length = σ.ps.length := by
  have := (R.get 7 rfl).1
  rwa [List.length_map] at this
theorem Rn.bgslen (R : Rn w0 S0 w S (mP b σ L ++ bx)) : L.gb.length = σ.gs.length := by
  have := (R.get 5 rfl).1
  rwa [List.length_map] at this
theorem Rn.bpat (R : Rn w0 S0 w S (mP b σ L ++ bx)) {p : Nat} {x : Prc} (hx : σ.ps[p]? = some x) : ∃ pb, L.pb[p]? = some pb := by
  have hl := (List.getElem?_eq_some_iff.1 hx).1
  exact ⟨L.pb[p]'(by rw [R.bpslen]; exact hl), List.getElem?_eq_getElem _⟩
theorem Rn.bgat (R : Rn w0 S0 w S (mP b σ L ++ bx)) {g : Nat} {y : Gor} (hy : σ.gs[g]? = some y) : ∃ gb, L.gb[g]? = some gb := by
  have hl := (List.getElem?_eq_some_iff.1 hy).1
  exact ⟨L.gb[g]'(by rw [R.bgslen]; exact hl), List.getElem?_eq_getElem _⟩
theorem Rn.bpsl (R : Rn w0 S0 w S (mP b σ L ++ bx)) {p pb : Nat} (hp : L.pb[p]? = some pb) : ∃ sb so pre post, L.pa = some ⟨sb, so, none⟩ ∧ S sb ∧ At w sb (B (pre ++ pts L.pb ++ post) 124) ∧ pre.length = so ∧ p < (pts L.pb).length := by
  have hl := (List.getElem?_eq_some_iff.1 hp).1
  obtain ⟨sb, so, pre, post, h1, h2, h3, h4⟩ := VS.open (R.get 6 rfl) (by rw [pts_len]; omega)
  exact ⟨sb, so, pre, post, h1, h2, h3, h4, by rw [pts_len]; exact hl⟩
theorem Rn.bgsl (R : Rn w0 S0 w S (mP b σ L ++ bx)) {g gb : Nat} (hg : L.gb[g]? = some gb) : ∃ sb so pre post, L.ga = some ⟨sb, so, none⟩ ∧ S sb ∧ At w sb (B (pre ++ pts L.gb ++ post) 118) ∧ pre.length = so ∧ g < (pts L.gb).length := by
  have hl := (List.getElem?_eq_some_iff.1 hg).1
  obtain ⟨sb, so, pre, post, h1, h2, h3, h4⟩ := VS.open (R.get 4 rfl) (by rw [pts_len]; omega)
  exact ⟨sb, so, pre, post, h1, h2, h3, h4, by rw [pts_len]; exact hl⟩
theorem Rn.bprc (R : Rn w0 S0 w S (mP b σ L ++ bx)) {p pb : Nat} {x : Prc} (hx : σ.ps[p]? = some x) (hp : L.pb[p]? = some pb) : At w pb (B (prcC x) 128) := by
  have := R.get 7 rfl
  exact (this.2.2 p pb (prcC x) hp (by simp [hx])).2
theorem Rn.bgor (R : Rn w0 S0 w S (mP b σ L ++ bx)) {g gb : Nat} {y : Gor} (hy : σ.gs[g]? = some y) (hg : L.gb[g]? = some gb) : At w gb (B (gorC y) 121) := by
  have := R.get 5 rfl
  exact (this.2.2 g gb (gorC y) hg (by simp [hy])).2
theorem Rn.bsetP (R : Rn w0 S0 w S (mP b σ L ++ bx)) {p pb : Nat} {x x' : Prc} (hx : σ.ps[p]? = some x) (hp : L.pb[p]? = some pb) (hn : prcN x' = prcN x) (u : Upd w w' pb (B (prcC x') 128)) : Rn w0 S0 w' S (mP b (Go.E.setP σ p x') L ++ bx) := by
  have h := R.strec 7 rfl hp u
  rw [← List.map_set] at h
  have e : (σ.ps.set p x').map prcN = σ.ps.map prcN := set_same hx hn
  have : mP b (Go.E.setP σ p x') L ++ bx = (mP b σ L ++ bx).set 7 (cRc 128 L.pb ((σ.ps.set p x').map prcC)) := by
    unfold mP Go.E.setP
    simp only [e]
    rfl
  rw [this]
  exact h
theorem Rn.bsetG (R : Rn w0 S0 w S (mP b σ L ++ bx)) {g gb : Nat} {y' : Gor} (hg : L.gb[g]? = some gb) (u : Upd w w' gb (B (gorC y') 121)) : Rn w0 S0 w' S (mP b (Go.E.setG σ g y') L ++ bx) := by
  have h := R.strec 5 rfl hg u
  rw [← List.map_set] at h
  exact h
/-- The machine by itself. -/
theorem Rn.bm (R : Rn w0 S0 w S (mP b σ L ++ bx)) : ∃ Sm : Nat → Prop, Side w Sm (mP b σ L) ∧ ∀ {w' : World} {σ' : MS} {L' : ML}, Ch Sm w w' → Side w' (Nw w Sm) (mP b σ' L') → ∃ S', Rn w0 S0 w' S' (mP b σ' L' ++ bx) := by
  obtain ⟨Sm, h1, h2, h3⟩ := R.split
  refine ⟨Sm, h2, fun {w' σ' L'} hc h => ?_⟩
  obtain ⟨S', h4, _⟩ := h3 (Qs := mP b σ' L') rfl hc h
  exact ⟨S', h4⟩
theorem Rn.bmq (R : Rn w0 S0 w S (mP b σ L ++ bx)) : MAt w S b σ := by
  obtain ⟨Sm, h1, h2, h3⟩ := R.split
  exact MAt.fm.mono ⟨L, h2⟩ fun y _ hy => (h1 y hy).1
end

theorem dec2_ok {c t : Nat} (w : World) : CallsD PP 248 #[pt c, pt t] .returning w (fun e u' w' => u' = .returning ∧ (e = .returned (.tuple #[]) ∧ Ext w w')) := by
  refine rec_den (args := [pt c, pt t]) (fn := Tryz.f248) Tryz.func248 rfl (by simp) rfl rfl rfl rfl (fun R hR => ?_)
  refine RUN.assertNil (z := []) rfl rfl rfl rfl ?_
  refine RUN.alloc rfl rfl (fun b1 w1 n1 => ?_)
  refine RUN.sta (vs := []) n1.here rfl (by simp) (by simp [Value.oneCell']) (fun w2 u2 => ?_)
  exact hR _ _ ⟨rfl, n1.ext.trans u2.ch (fun y hy hb => by have := n1.blk; omega)⟩
def faultV : PanicEntry := { v := .iface 324 (.agg #[]), recovered := false }
theorem dec2_bad {c t : Nat} {w : World} {x : Cmt} {to : Int} (hc : At w c (B (cmC x) 53)) (ht : At w t (B [i64 to] 3)) (hd : c ≠ t) :
    CallsD PP 248 #[pt c, pt t] (.panicking [faultV]) w (fun e u' w' => u' = .panicking [{ v := .iface 324 (.agg #[]), recovered := true }] ∧ (e = .returned (.tuple #[]) ∧ ∃ wa wb wc, Ext w wa ∧ Upd wa wb c (B (cmC { x with value := 0 }) 53) ∧ Upd wb wc c (B (cmC { x with value := 0, fault := true }) 53) ∧ Upd wc w' t (B [i64 5] 3))) := by
  refine rec_den (args := [pt c, pt t]) (fn := Tryz.f248) Tryz.func248 rfl (by simp) rfl rfl rfl rfl (fun R hR => ?_)
  refine RUN.assertOk rfl rfl ?_
  refine RUN.alloc rfl rfl (fun b1 w1 n1 => ?_)
  refine RUN.sta (vs := []) n1.here rfl (by simp) (by simp [Value.oneCell']) (fun w2 u2 => ?_)
  have hb1 := n1.blk
  have x2 : Ext w w2 := n1.ext.trans u2.ch (fun y hy hb => by omega)
  refine RUN.sti (x2.at hc) rfl (by simp [cmC]) (fun w3 u3 => ?_)
  refine RUN.stb u3.here rfl (by simp [cmC]) (fun w4 u4 => ?_)
  refine RUN.sti (u4.at (u3.at (x2.at ht) (Ne.symm hd)) (Ne.symm hd)) rfl (by simp) (fun w5 u5 => ?_)
  exact hR _ _ ⟨rfl, _, _, _, x2, u3, u4, u5⟩
end Go.E
end
