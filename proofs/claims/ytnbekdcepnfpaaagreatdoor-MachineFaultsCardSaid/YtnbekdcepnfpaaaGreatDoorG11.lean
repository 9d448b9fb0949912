/- Numbers with a point, the pacer, what a configuration says. -/
import Derived.Test.YtnbekdcepnfpaaaGreatDoorG10
import Derived.Test.YtnbekdcepnfpaaaGreatDoorG09
set_option linter.unusedVariables false
set_option maxRecDepth 10000
noncomputable section
namespace Go.E
open Go Go.Proofs

abbrev u64 (n : Int) : Value := .int .u64 n
theorem size_in' {a : Int} (h : 0 ≤ a ∧ a ≤ 9223372036854775807) (w : World) : Calls PP 283 #[i64 a] w (Pure w (u64 a)) := by
  refine calls_den (fn := Tryz.f283) (args := [_]) Tryz.func283 rfl (by simp) (fun R hR => ?_)
  refine CLt.no (by omega) ?_
  refine CVI.u64 (by omega) (fun r hr => ?_)
  subst hr
  exact hR _ _ ⟨rfl, Ext.refl w⟩
theorem mul64_in {a b : Int} (h : 0 ≤ a ∧ a < 16777216) (hb : b = 1099511627776) (w : World) : Calls PP 290 #[u64 a, u64 b] w (Pure w (.tuple #[u64 0, u64 (a * 1099511627776)])) := by
  subst hb
  refine calls_den (fn := Tryz.f290) (args := [_, _]) Tryz.func290 rfl (by simp) (fun R hR => ?_)
  refine ART.mask 32 (by decide) (by decide) (by omega) (fun x0 h0 => ?_)
  refine ART.ushr 32 (by decide) (by decide) (by omega) (fun x1 h1 => ?_)
  refine ART.mask 32 (by decide) (by decide) (by omega) (fun y0 g0 => ?_)
  refine ART.ushr 32 (by decide) (by decide) (by omega) (fun y1 g1 => ?_)
  have e1 : x0 = a := by rw [h0]; omega
  have e2 : x1 = 0 := by rw [h1]; omega
  have e3 : y0 = 0 := by rw [g0]; decide
  have e4 : y1 = 256 := by rw [g1]; decide
  clear h0 h1 g0 g1
  subst e1 e2 e3 e4
  refine ART.umul (by omega) (fun w0 k0 => ?_)
  refine ART.umul (by omega) (fun t k1 => ?_)
  refine ART.ushr 32 (by decide) (by decide) (by omega) (fun t2 k2 => ?_)
  refine ART.uadd (by omega) (fun t3 k3 => ?_)
  subst k0 k1
  simp at k2
  subst k2 k3
  refine ART.mask 32 (by decide) (by decide) (by omega) (fun w1 k4 => ?_)
  refine ART.ushr 32 (by decide) (by decide) (by omega) (fun w2 k5 => ?_)
  have e5 : w1 = 0 := by rw [k4]; decide
  have e6 : w2 = 0 := by rw [k5]; decide
  clear k4 k5
  subst e5 e6
  refine ART.umul (by omega) (fun p q => ?_)
  refine ART.uadd (by omega) (fun p2 q2 => ?_)
  refine ART.umul (by omega) (fun p3 q3 => ?_)
  refine ART.uadd (by omega) (fun p4 q4 => ?_)
  refine ART.ushr 32 (by decide) (by decide) (by omega) (fun p5 q5 => ?_)
  subst q q2 q3 q4
  have e7 : p5 = 0 := by rw [q5]; omega
  clear q5
  subst e7
  refine ART.uadd (by omega) (fun s hs => ?_)
  refine ART.umul (by omega) (fun s2 hs2 => ?_)
  subst hs hs2
  exact hR _ _ ⟨rfl, Ext.refl w⟩
theorem made_in {lo : Int} {m : Bool} (h : 0 ≤ lo ∧ lo ≤ 9223372036854775807) (w : World) : Calls PP 285 #[u64 0, u64 lo, .bool false, .bool m] w (Pure w (i64 lo)) := by
  refine calls_den (fn := Tryz.f285) (args := [_, _, _, _]) Tryz.func285 rfl (by simp) (fun R hR => ?_)
  refine CLt.no (by omega) ?_
  refine CLt.no (by omega) ?_
  refine CEq.no (by omega) ?_
  refine CVI.i64 (by omega) (fun r hr => ?_)
  subst hr
  exact hR _ _ ⟨rfl, Ext.refl w⟩
theorem mul_in {a b : Int} (h : 0 ≤ a ∧ a < 16777216) (hb : b = 1099511627776) (w : World) : Calls PP 208 #[i64 a, i64 b] w (Pure w (i64 (a * 1048576))) := by
  refine calls_den (fn := Tryz.f208) (args := [_, _]) Tryz.func208 rfl (by simp) (fun R hR => ?_)
  refine CALL.by (size_in' ⟨h.1, by omega⟩ w) rfl ?_
  rintro e w1 ⟨rfl, x1⟩
  refine CALL.by (size_in' (by omega) w1) rfl ?_
  rintro e w2 ⟨rfl, x2⟩
  refine CALL.by (mul64_in h hb w2) rfl ?_
  rintro e w3 ⟨rfl, x3⟩
  refine ART.ushr 20 (by decide) (by decide) (by omega) (fun p hp => ?_)
  refine ART.ushl 44 (by decide) (by decide) ((by decide)) (fun q hq => ?_)
  refine ART.ushr 20 (by decide) (by decide) (by omega) (fun s hs => ?_)
  have e1 : p = 0 := by rw [hp]; decide
  have e2 : q = 0 := by rw [hq]; decide
  have e3 : s = a * 1048576 := by rw [hs]; omega
  clear hp hq hs
  subst e1 e2 e3
  refine ART.or0 (by omega) ?_
  refine CLt.no (by omega) ?_
  refine CLt.no (by omega) ?_
  refine ART.mask 20 (by decide) (by decide) (by omega) (fun m hm => ?_)
  have e4 : m = 0 := by rw [hm]; omega
  clear hm
  subst e4
  refine CEq.yes (by omega) ?_
  refine CALL.by (made_in (by omega) w3) rfl ?_
  rintro e w4 ⟨rfl, x4⟩
  exact hR _ _ ⟨rfl, ((x1.trans' x2).trans' x3).trans' x4⟩
theorem whole_in {a : Int} (h : 0 ≤ a ∧ a < 16777216) (w : World) : Calls PP 195 #[i64 a] w (Pure w (i64 (a * 1048576))) := by
  refine calls_den (fn := Tryz.f195) (args := [_]) Tryz.func195 rfl (by simp) (fun R hR => ?_)
  refine CALL.by (mul_in h rfl w) rfl ?_
  rintro e w1 ⟨rfl, x1⟩
  exact hR _ _ ⟨rfl, x1⟩
theorem fadd_in {a b : Int} (ha : 0 ≤ a ∧ a < 16777216) (hb : 0 ≤ b ∧ b < 16777216) (w : World) : Calls PP 196 #[i64 a, i64 b] w (Pure w (i64 (a + b))) := by
  refine calls_den (fn := Tryz.f196) (args := [_, _]) Tryz.func196 rfl (by simp) (fun R hR => ?_)
  by_cases h0 : 0 < b
  · refine CLt.yes (by omega) ?_
    refine ART.sub (by omega) (fun r hr => ?_)
    refine CLt.no (by omega) ?_
    refine CLt.no (by omega) ?_
    refine ART.add (by omega) (fun s hs => ?_)
    subst hs
    exact hR _ _ ⟨rfl, Ext.refl w⟩
  · refine CLt.no (by omega) ?_
    refine CLt.no (by omega) ?_
    refine ART.add (by omega) (fun s hs => ?_)
    subst hs
    exact hR _ _ ⟨rfl, Ext.refl w⟩
theorem fsub_in {a b : Int} (ha : 0 ≤ a ∧ a ≤ 16777216) (hb : 0 ≤ b ∧ b ≤ 16777216) (w : World) : Calls PP 197 #[i64 a, i64 b] w (Pure w (i64 (a - b))) := by
  refine calls_den (fn := Tryz.f197) (args := [_, _]) Tryz.func197 rfl (by simp) (fun R hR => ?_)
  refine CLt.no (by omega) ?_
  by_cases h0 : 0 < b
  · refine CLt.yes (by omega) ?_
    refine ART.add (by omega) (fun r hr => ?_)
    refine CLt.no (by omega) ?_
    refine ART.sub (by omega) (fun s hs => ?_)
    subst hs
    exact hR _ _ ⟨rfl, Ext.refl w⟩
  · refine CLt.no (by omega) ?_
    refine ART.sub (by omega) (fun s hs => ?_)
    subst hs
    exact hR _ _ ⟨rfl, Ext.refl w⟩
theorem div64_in {lo y : Int} (h : 0 ≤ lo ∧ lo ≤ 9223372036854775807) (hy : 0 < y ∧ y ≤ 9223372036854775807) (w : World) : Calls PP 284 #[u64 0, u64 lo, u64 y] w (Pure w (.tuple #[u64 (lo / y), u64 (lo % y)])) := by
  refine calls_den (fn := Tryz.f284) (args := [_, _, _]) Tryz.func284 rfl (by simp) (fun R hR => ?_)
  refine CEq.no (by omega) ?_
  refine CLt.yes (by omega) ?_
  refine CEq.yes (by omega) ?_
  refine DRAW.q 7 (qs 7 0) (by kernel_rfl) (fun _ _ _ _ _ h => h) ?_
  refine ART.uquo (by omega) (by omega) (by omega) (fun q hq => ?_)
  refine ART.urem (by omega) (by omega) (by omega) (fun r hr => ?_)
  subst hq hr
  intro w1 x1
  exact hR _ _ ⟨rfl, x1⟩
theorem div_in {a b : Int} (ha : 0 ≤ a ∧ a < 8796093022208) (hb : 0 < b ∧ b ≤ 9223372036854775807) (w : World) : Calls PP 199 #[i64 a, i64 b] w (Pure w (i64 (a * 1048576 / b))) := by
  have h1 : 0 ≤ a * 1048576 / b := Int.ediv_nonneg (by omega) (by omega)
  have h2 : a * 1048576 / b ≤ a * 1048576 := Int.ediv_le_self b (by omega)
  refine calls_den (fn := Tryz.f199) (args := [_, _]) Tryz.func199 rfl (by simp) (fun R hR => ?_)
  refine CEq.no (by omega) ?_
  refine CALL.by (size_in' ⟨ha.1, by omega⟩ w) rfl ?_
  rintro e w1 ⟨rfl, x1⟩
  refine CALL.by (size_in' ⟨by omega, hb.2⟩ w1) rfl ?_
  rintro e w2 ⟨rfl, x2⟩
  refine ART.ushr 44 (by decide) (by decide) (by omega) (fun p hp => ?_)
  refine ART.ushl 20 (by decide) (by decide) (by omega) (fun q hq => ?_)
  have e1 : p = 0 := by rw [hp]; omega
  have e2 : q = a * 1048576 := by rw [hq]; rfl
  clear hp hq
  subst e1 e2
  refine ART.uquo (by omega) (by omega) (by omega) (fun r hr => ?_)
  refine ART.urem (by omega) (by omega) (by omega) (fun s hs => ?_)
  have e3 : r = 0 := by rw [hr]; exact Int.zero_ediv b
  have e4 : s = 0 := by rw [hs]; exact Int.zero_emod b
  clear hr hs
  subst e3 e4
  refine CALL.by (div64_in (by omega) hb w2) rfl ?_
  rintro e w3 ⟨rfl, x3⟩
  refine CLt.no (by omega) ?_
  refine CLt.no (by omega) ?_
  by_cases hm : a * 1048576 % b = 0
  · refine CEq.yes (hm) ?_
    refine CALL.by (made_in ⟨h1, by omega⟩ w3) rfl ?_
    rintro e w4 ⟨rfl, x4⟩
    exact hR _ _ ⟨rfl, ((x1.trans' x2).trans' x3).trans' x4⟩
  · refine CEq.no (hm) ?_
    refine CALL.by (made_in ⟨h1, by omega⟩ w3) rfl ?_
    rintro e w4 ⟨rfl, x4⟩
    exact hR _ _ ⟨rfl, ((x1.trans' x2).trans' x3).trans' x4⟩

/-! The pacer -/
theorem bounds_any (a : Int) (w : World) : Calls PP 198 #[i64 a] w (Pure w (i64 (min (max a 131072) 67108864))) := by
  refine calls_den (fn := Tryz.f198) (args := [_]) Tryz.func198 rfl (by simp) (fun R hR => ?_)
  refine RUN.max2 (fun r hr => ?_)
  refine RUN.min2 (fun s hs => ?_)
  subst hr hs
  exact hR _ _ ⟨rfl, Ext.refl w⟩
/-- The ratio. -/
def ratioF (l t g : Int) : Int := min (max ((l + 64) * 1048576 * 1048576 / (max (g - t) 1 * 1048576)) 131072) 67108864
theorem ratio_in {l t g : Int} (hl : 0 ≤ l ∧ l < 8388544) (ht : 0 < t ∧ t ≤ 16777215) (hg : 0 ≤ g ∧ g ≤ 16777216) (w : World) : Calls PP 144 #[i64 l, i64 t, i64 g] w (Pure w (i64 (ratioF l t g))) := by
  refine calls_den (fn := Tryz.f144) (args := [_, _, _]) Tryz.func144 rfl (by simp) (fun R hR => ?_)
  refine RUN.max2 (fun r hr => ?_)
  have : r = l := by omega
  subst this
  clear hr
  refine CALL.by (fadd_in ⟨hl.1, by omega⟩ (by omega) w) rfl ?_
  rintro e w1 ⟨rfl, x1⟩
  refine CALL.by (whole_in (by omega) w1) rfl ?_
  rintro e w2 ⟨rfl, x2⟩
  refine CALL.by (fsub_in hg ⟨by omega, by omega⟩ w2) rfl ?_
  rintro e w3 ⟨rfl, x3⟩
  refine RUN.max2 (fun s hs => ?_)
  refine CALL.by (whole_in (by omega) w3) rfl ?_
  rintro e w4 ⟨rfl, x4⟩
  refine CALL.by (div_in (by omega) (by omega) w4) rfl ?_
  rintro e w5 ⟨rfl, x5⟩
  refine CALL.by (bounds_any _ w5) rfl ?_
  rintro e w6 ⟨rfl, x6⟩
  exact hR _ _ ⟨by subst hs; rfl, ((((x1.trans' x2).trans' x3).trans' x4).trans' x5).trans' x6⟩
theorem ratioF_pos (l t g : Int) : 0 < ratioF l t g := by unfold ratioF; omega
structure GoalT where
  (trig goal ratio : Int)
/-- What the pacer says. -/
def goalF (live words percent : Int) (on : Bool) : GoalT :=
  let w := min (max words 0) 16777216
  let l := min (max live 0) w
  if on = false then ⟨w, w, 0⟩
  else
    let p := min (max percent 0) 10000
    let g := min (min (max (l + l * p / 100) (w / 4)) (w / 2 + l / 2)) w
    let t := min (l + max (g - l) 0 * 3 / 4) g
    ⟨t, g, ratioF l t g⟩
def goalV (g : GoalT) : List Value := [i64 g.trig, i64 g.goal, i64 g.ratio]
/-- A fact that is kept aside. -/
structure Hid (p : Prop) : Prop where
  get : p
theorem goal_in {live words percent : Int} {on : Bool} (hw : 64 ≤ words ∧ words < 8388544) (w : World) : Calls PP 97 #[i64 live, i64 words, i64 percent, .bool on] w (Pure w (.agg (goalV (goalF live words percent on)).toArray)) := by
  refine calls_den (fn := Tryz.f97) (args := [_, _, _, _]) Tryz.func97 rfl (by simp) (fun R hR => ?_)
  refine RUN.alloc rfl rfl (fun b1 w1 n1 => ?_)
  refine RUN.max2 (fun a1 h1 => ?_)
  refine RUN.min2 (fun a2 h2 => ?_)
  refine RUN.max2 (fun a3 h3 => ?_)
  refine RUN.min2 (fun a4 h4 => ?_)
  have ew : a2 = min (max words 0) 16777216 := by rw [h2, h1]
  have el : a4 = min (max live 0) a2 := by rw [h4, h3]
  clear h1 h2 h3 h4
  have bw : 64 ≤ a2 ∧ a2 < 8388544 := by omega
  have bl : 0 ≤ a4 ∧ a4 ≤ a2 := by omega
  replace ew := Hid.mk ew
  replace el := Hid.mk el
  cases on with
  | false =>
    refine RUN.sta (vs := [i64 a2, i64 a2, i64 0]) n1.here rfl (by simp) (by simp [Value.oneCell']) (fun w2 u2 => ?_)
    refine RUN.lda u2.here rfl (by simp [setAt]; decide) rfl ?_
    refine ⟨rfl, hR _ _ ⟨?_, n1.ext.trans u2.ch (fun x hx hb => by have := n1.blk; omega)⟩⟩
    rw [ew.get]
    rfl
  | true =>
    refine RUN.max2 (fun a5 h5 => ?_)
    refine RUN.min2 (fun a6 h6 => ?_)
    have h6' : a6 = min (max percent 0) 10000 := by rw [h6, h5]
    have bp : 0 ≤ a6 ∧ a6 ≤ 10000 := by omega
    clear h5 h6
    replace h6' := Hid.mk h6'
    have hp0 : 0 ≤ a4 * a6 := Int.mul_nonneg (by omega) (by omega)
    have hp1 : a4 * a6 ≤ a4 * 10000 := Int.mul_le_mul_of_nonneg_left (by omega) (by omega)
    refine ART.mul (by omega) (fun a7 h7 => ?_)
    rw [← h7] at hp0 hp1
    refine ART.quo (by omega) (by omega) (by omega) (fun a8 h8 => ?_)
    refine ART.add (by omega) (fun a9 h9 => ?_)
    refine ART.quo (by omega) (by omega) (by omega) (fun b4 k4 => ?_)
    refine RUN.max2 (fun b5 k5 => ?_)
    refine ART.quo (by omega) (by omega) (by omega) (fun b6 k6 => ?_)
    refine ART.quo (by omega) (by omega) (by omega) (fun b7 k7 => ?_)
    refine ART.add (by omega) (fun b8 k8 => ?_)
    refine RUN.min3 (fun b9 k9 => ?_)
    have eg : b9 = min (min (max (a4 + a4 * a6 / 100) (a2 / 4)) (a2 / 2 + a4 / 2)) a2 := by rw [k9, k5, k8, k6, k7, h9, h8, h7, k4]
    have bg : 16 ≤ b9 ∧ b9 ≤ a2 := by clear eg; omega
    clear h7 h8 h9 k4 k5 k6 k7 k8 k9
    replace eg := Hid.mk eg
    refine ART.sub (by omega) (fun c1 m1 => ?_)
    refine RUN.max2 (fun c2 m2 => ?_)
    refine ART.mul (by omega) (fun c3 m3 => ?_)
    refine ART.quo (by omega) (by omega) (by omega) (fun c4 m4 => ?_)
    refine ART.add (by omega) (fun c5 m5 => ?_)
    refine RUN.min2 (fun c6 m6 => ?_)
    have et : c6 = min (a4 + max (b9 - a4) 0 * 3 / 4) b9 := by rw [m6, m5, m4, m3, m2, m1]
    have bt : 0 < c6 ∧ c6 ≤ b9 := by clear et; omega
    clear m1 m2 m3 m4 m5 m6
    replace et := Hid.mk et
    refine CALL.by (ratio_in (by omega) (by omega) (by omega) w1) rfl ?_
    rintro e w3 ⟨rfl, x3⟩
    refine RUN.sta (vs := [i64 c6, i64 b9, i64 (ratioF a4 c6 b9)]) (x3.at n1.here) rfl (by simp) (by simp [Value.oneCell']) (fun w2 u2 => ?_)
    refine RUN.lda u2.here rfl (by simp [setAt]; decide) rfl ?_
    refine ⟨rfl, hR _ _ ⟨?_, (n1.ext.trans' x3).trans u2.ch (fun x hx hb => by have := n1.blk; omega)⟩⟩
    have : goalF live words percent true = ⟨c6, b9, ratioF a4 c6 b9⟩ := by
      unfold goalF
      rw [if_neg (by decide)]
      simp only [← ew.get, ← el.get, ← h6'.get, ← eg.get, ← et.get]
    rw [this]
    rfl
theorem goalF_trig {words percent : Int} {on : Bool} (hw : 64 ≤ words ∧ words < 8388544) : 0 < (goalF 0 words percent on).trig := by
  unfold goalF
  cases on
  · simp; omega
  · simp; omega

/-! What a configuration says -/
theorem may_any (ps words : Int) (f g : Nat) (w : World) : Calls PP 86 #[.agg #[i64 ps, i64 words, .float .f64 f, .float .f64 g]] w (Pure w (.bool (decide (1 ≤ ps ∧ ps ≤ 64 ∧ 256 ≤ words ∧ words ≤ 16777216 ∧ words % 64 = 0)))) := by
  refine calls_den (fn := Tryz.f86) (args := [_]) Tryz.func86 rfl (by simp) (fun R hR => ?_)
  refine RUN.box (fun b1 w1 n1 => ?_)
  refine RUN.ld n1.here rfl (rfl) ?_
  have hX : Ext w w1 := n1.ext
  by_cases h1 : ps < 1
  · refine CLt.yes (by omega) ?_
    exact hR _ _ ⟨congrArg (fun b => Ending.returned (.bool b)) (by simp; omega), hX⟩
  refine CLt.no (by omega) ?_
  refine RUN.ld n1.here rfl (rfl) ?_
  by_cases h2 : 64 < ps
  · refine CLt.yes (by omega) ?_
    exact hR _ _ ⟨congrArg (fun b => Ending.returned (.bool b)) (by simp; omega), hX⟩
  refine CLt.no (by omega) ?_
  refine RUN.ld n1.here rfl (rfl) ?_
  by_cases h3 : words < 256
  · refine CLt.yes (by omega) ?_
    exact hR _ _ ⟨congrArg (fun b => Ending.returned (.bool b)) (by simp; omega), hX⟩
  refine CLt.no (by omega) ?_
  refine RUN.ld n1.here rfl (rfl) ?_
  by_cases h4 : 16777216 < words
  · refine CLt.yes (by omega) ?_
    exact hR _ _ ⟨congrArg (fun b => Ending.returned (.bool b)) (by simp; omega), hX⟩
  refine CLt.no (by omega) ?_
  refine RUN.ld n1.here rfl (rfl) ?_
  refine ART.rem (by omega) (by omega) (fun r hr => ?_)
  subst hr
  by_cases h5 : words % 64 = 0
  · refine CEq.yes (h5) ?_
    exact hR _ _ ⟨congrArg (fun b => Ending.returned (.bool b)) (by simp; omega), hX⟩
  · refine CEq.no (h5) ?_
    exact hR _ _ ⟨congrArg (fun b => Ending.returned (.bool b)) (by simp; omega), hX⟩
open Ieee in
theorem ffloat_in {p : Nat} (h1 : fcm .lss p 4580160821035794432 = false) (h2 : fcm .geq p 4607182418800017408 = false) (h3 : fcm .neq p p = false) :
    ∃ n : Int, 0 ≤ n ∧ ∀ w, Calls PP 136 #[.float .f64 p] w (Pure w (i64 n)) := by
  obtain ⟨q, n, hq, hq2, hn, hn0⟩ := share_in h1 h2 h3
  cases h4 : fcm .geq p 4800837202776948736 with
  | true =>
    refine ⟨9223372036854775807, by decide, fun w => ?_⟩
    refine calls_den (fn := Tryz.f136) (args := [_]) Tryz.func136 rfl (by simp) (fun R hR => ?_)
    refine RUN.fcmp rfl ?_
    rw [h3]
    refine RUN.fcmp rfl ?_
    rw [h4]
    exact hR _ _ ⟨rfl, Ext.refl w⟩
  | false =>
    cases h5 : fcm .leq p 14024209239631724544 with
    | true =>
      exfalso
      obtain ⟨m, e, hm, _⟩ := small_num h1 h2 h3
      have hx : double.read 14024209239631724544 = .number true (2 ^ 52) (-9) := by decide
      simp only [fcm, Format.order, FloatKind.format] at h5
      rw [hm, hx] at h5
      have hp : 0 < (2 ^ 52) <<< (-9 - min e (-9)).toNat := by rw [Nat.shiftLeft_eq]; exact Nat.mul_pos (by decide) (Nat.two_pow_pos _)
      have ho2 : Datum.order (.number false m e) (.number true (2 ^ 52) (-9)) = some (compare ((m <<< (e - min e (-9)).toNat : Nat) : Int) (-(((2 ^ 52) <<< (-9 - min e (-9)).toNat : Nat) : Int))) := rfl
      rw [ho2] at h5
      generalize (2 ^ 52) <<< (-9 - min e (-9)).toNat = u at hp h5
      generalize m <<< (e - min e (-9)).toNat = t at h5
      have : compare (t : Int) (-(u : Int)) = .gt := by rw [Int.compare_eq_gt]; omega
      rw [this] at h5
      cases h5
    | false =>
      refine ⟨n, hn0, fun w => ?_⟩
      have hfl : ∀ w, Calls PP 138 #[.float .f64 q] w (Pure w (.float .f64 (flo q))) := by
        intro w
        refine calls_den (fn := Tryz.f138) (args := [_]) Tryz.func138 rfl (by simp) (fun R hR => ?_)
        refine CALL.ext _ w (floor_in hq2 w) ?_
        exact hR _ _ ⟨rfl, Ext.refl w⟩
      refine calls_den (fn := Tryz.f136) (args := [_]) Tryz.func136 rfl (by simp) (fun R hR => ?_)
      refine RUN.fcmp rfl ?_
      rw [h3]
      refine RUN.fcmp rfl ?_
      rw [h4]
      refine RUN.fcmp rfl ?_
      rw [h5]
      refine RUN.fmul hq ?_
      refine CALL.by (hfl w) rfl ?_
      rintro e w1 ⟨rfl, x1⟩
      refine RUN.finti rfl rfl hn ?_
      exact hR _ _ ⟨rfl, x1⟩
/-- The share is always the same. -/
theorem part_any (p : Nat) : ∃ n : Int, 0 ≤ n ∧ ∀ w, Calls PP 88 #[.float .f64 p] w (Pure w (i64 n)) := by
  cases h1 : fcm .neq p p with
  | true =>
    refine ⟨262144, by decide, fun w => ?_⟩
    refine calls_den (fn := Tryz.f88) (args := [_]) Tryz.func88 rfl (by simp) (fun R hR => ?_)
    refine RUN.fcmp rfl ?_
    rw [h1]
    exact hR _ _ ⟨rfl, Ext.refl w⟩
  | false =>
    cases h2 : fcm .lss p 4580160821035794432 with
    | true =>
      refine ⟨16384, by decide, fun w => ?_⟩
      refine calls_den (fn := Tryz.f88) (args := [_]) Tryz.func88 rfl (by simp) (fun R hR => ?_)
      refine RUN.fcmp rfl ?_
      rw [h1]
      refine RUN.fcmp rfl ?_
      rw [h2]
      exact hR _ _ ⟨rfl, Ext.refl w⟩
    | false =>
      cases h3 : fcm .geq p 4607182418800017408 with
      | true =>
        refine ⟨1048576, by decide, fun w => ?_⟩
        refine calls_den (fn := Tryz.f88) (args := [_]) Tryz.func88 rfl (by simp) (fun R hR => ?_)
        refine RUN.fcmp rfl ?_
        rw [h1]
        refine RUN.fcmp rfl ?_
        rw [h2]
        refine RUN.fcmp rfl ?_
        rw [h3]
        exact hR _ _ ⟨rfl, Ext.refl w⟩
      | false =>
        obtain ⟨n, hn0, hn⟩ := ffloat_in h2 h3 h1
        refine ⟨n, hn0, fun w => ?_⟩
        refine calls_den (fn := Tryz.f88) (args := [_]) Tryz.func88 rfl (by simp) (fun R hR => ?_)
        refine RUN.fcmp rfl ?_
        rw [h1]
        refine RUN.fcmp rfl ?_
        rw [h2]
        refine RUN.fcmp rfl ?_
        rw [h3]
        refine CALL.by (hn w) rfl ?_
        rintro e w1 ⟨rfl, x1⟩
        exact hR _ _ ⟨rfl, x1⟩
def partF (p : Nat) : Int := Classical.choose (part_any p)
theorem part_in (p : Nat) (w : World) : Calls PP 88 #[.float .f64 p] w (Pure w (i64 (partF p))) := (Classical.choose_spec (part_any p)).2 w
theorem partF_pos (p : Nat) : 0 ≤ partF p := (Classical.choose_spec (part_any p)).1
theorem isinf_in (p : Nat) (w : World) : Calls PP 137 #[.float .f64 p, i64 1] w (Pure w (.bool (fcm .gtr p 9218868437227405311))) := by
  refine calls_den (fn := Tryz.f137) (args := [_, _]) Tryz.func137 rfl (by simp) (fun R hR => ?_)
  refine CEq.no (by omega) ?_
  refine CLt.no (by omega) ?_
  refine RUN.fcmp rfl ?_
  exact hR _ _ ⟨rfl, Ext.refl w⟩
theorem ffloor_any (p : Nat) (w : World) : Calls PP 138 #[.float .f64 p] w (fun e w' => (∃ r, e = .returned (.float .f64 r)) ∧ Ext w w') := by
  refine calls_den (fn := Tryz.f138) (args := [_]) Tryz.func138 rfl (by simp) (fun R hR => ?_)
  obtain ⟨r, w', h, hx⟩ := floor_any p w
  refine CALL.ext _ w' h ?_
  exact hR _ _ ⟨⟨r, rfl⟩, hx⟩
/-- The growth: is the collector on? -/
def onF (p : Nat) : Bool := fcm .neq p p || !(fcm .lss p 0 || fcm .gtr p 9218868437227405311)
theorem percent_any (p : Nat) (w : World) : Calls PP 89 #[.float .f64 p] w (fun e w' => (∃ n, e = .returned (.tuple #[i64 n, .bool (onF p)])) ∧ Ext w w') := by
  refine calls_den (fn := Tryz.f89) (args := [_]) Tryz.func89 rfl (by simp) (fun R hR => ?_)
  refine RUN.fcmp rfl ?_
  unfold onF at hR
  cases h1 : fcm .neq p p with
  | true =>
    rw [h1] at hR
    exact hR _ _ ⟨⟨_, rfl⟩, Ext.refl w⟩
  | false =>
    rw [h1] at hR
    refine RUN.fcmp rfl ?_
    cases h2 : fcm .lss p 0 with
    | true =>
      rw [h2] at hR
      exact hR _ _ ⟨⟨_, rfl⟩, Ext.refl w⟩
    | false =>
      rw [h2] at hR
      refine CALL.by (isinf_in p w) rfl ?_
      rintro e w1 ⟨rfl, x1⟩
      cases h3 : fcm .gtr p 9218868437227405311 with
      | true =>
        rw [h3] at hR
        exact hR _ _ ⟨⟨_, rfl⟩, x1⟩
      | false =>
        rw [h3] at hR
        refine RUN.fmin (fun r w2 x2 => ?_)
        refine CALL.by (ffloor_any r w2) rfl ?_
        rintro e w3 ⟨⟨s, rfl⟩, x3⟩
        refine RUN.fint rfl rfl (fun n w4 x4 => ?_)
        exact hR _ _ ⟨⟨_, rfl⟩, ((x1.trans' x2).trans' x3).trans' x4⟩
end Go.E
end
/- The machine in memory: its parts side by side. -/
set_option linter.unusedVariables false
set_option linter.unusedSimpArgs false
set_option maxRecDepth 10000
noncomputable section
namespace Go.E
open Go Go.Proofs

/-- A goroutine of the machine. -/
structure Gor where
  f : Nat
  pc : Nat
  count : Nat
  stack : List Int
  p : Int
  cycle : Int
def gorC (g : Gor) : List Value := [i64 g.f, i64 g.pc, i64 g.count] ++ ints g.stack ++ [i64 g.p, i64 g.cycle]
/-- A P. -/
structure Prc where
  g : Int
  row : Int
  last : Int
  picks : Int
  passed : Int
  scan : Option Addr
  notes : Option Addr
  said : Bool
  due : Int
  worked : Int
  all : Int
def prcC (x : Prc) : List Value := [i64 x.g, i64 x.row, i64 x.last, i64 x.picks, i64 x.passed, .pointer x.scan, .pointer x.notes, .bool x.said, i64 x.due, i64 x.worked, i64 x.all]
def prcN (x : Prc) : Option Addr × Option Addr := (x.scan, x.notes)
def inC (i : In) : List Value := [i64 i.op, i64 i.a, i64 i.b, i64 i.c]
def cmC (c : Cmt) : List Value := [i64 c.g, i64 c.f, i64 c.pc, i64 c.op, i64 c.value, .bool c.fault]
/-- A program: slices of slices of instructions; it is never written. -/
structure FL where
  a : Option Addr
  c : Nat
def FnAt (w : World) (S : Nat → Prop) (a : Option Addr) (c : Nat) (fs : List (List In)) : Prop :=
  ∃ ls : List FL, ls.length = fs.length ∧ (∃ vs : List Value, vs.length = fs.length ∧ VS w S 34 a c vs ∧ ∀ (i : Nat) (x : FL) (l : List In), ls[i]? = some x → fs[i]? = some l → vs[i]? = some (.slice x.a l.length x.c)) ∧
    ∀ (i : Nat) (x : FL) (l : List In), ls[i]? = some x → fs[i]? = some l → MSl w S 33 4 x.a x.c (l.map inC)
theorem FnAt.fm {a : Option Addr} {c : Nat} {fs : List (List In)} : Fm (fun w S => FnAt w S a c fs) := by
  rintro w w' S S' ⟨ls, h1, ⟨vs, h2, h3, h4⟩, h5⟩ hf
  exact ⟨ls, h1, ⟨vs, h2, VS.fm w w' S S' h3 hf, h4⟩, fun i x l hx hl => MSl.fm w w' S S' (h5 i x l hx hl) hf⟩

/-- Who sleeps. -/
structure Tm where
  t : Int
  g : Int
  seq : Int
def tmC (t : Tm) : List Value := [i64 t.t, i64 t.g, i64 t.seq]
def TmAt (w : World) (S : Nat → Prop) (b : Nat) (l : List Tm) : Prop := ∃ a c made, ((0 ≤ made ∧ made ≤ 2 ^ 40) ∧ l.length ≤ 2 ^ 30) ∧ Side w S [cAt b (B [.slice a (l.map tmC).length c, i64 made] 185), cMSl 246 3 a c (l.map tmC)]
theorem TmAt.fm {b : Nat} {l : List Tm} : Fm (fun w S => TmAt w S b l) := by
  rintro w w' S S' ⟨a, c, made, h0, h⟩ hf
  exact ⟨a, c, made, h0, Side.fm w w' S S' h hf⟩
/-- Who waits. -/
def wtC (rs : List Rw) : List Value := rs.map Rw.v
def WtAt (w : World) (S : Nat → Prop) (b : Nat) (ws : List (List Int)) : Prop := ∃ rs : List Rw, rs.map (·.l) = ws ∧ ws.length = 32 ∧ Side w S (cAt b (B (wtC rs) 238) :: rs.map cRw)
theorem WtAt.fm {b : Nat} {ws : List (List Int)} : Fm (fun w S => WtAt w S b ws) := by
  rintro w w' S S' ⟨rs, h0, h1, h⟩ hf
  exact ⟨rs, h0, h1, Side.fm w w' S S' h hf⟩
/-- The phases. -/
structure PhS where
  phase : Int
  cycle : Int
  said : List Bool
  count : Int
  restarts : Int
def PhAt (w : World) (S : Nat → Prop) (b : Nat) (f : PhS) : Prop := ∃ a c, Side w S [cAt b (B [i64 f.phase, i64 f.cycle, .slice a (f.said.map Value.bool).length c, i64 f.count, i64 f.restarts] 189), cVS 4 a c (f.said.map Value.bool)]
theorem PhAt.fm {b : Nat} {f : PhS} : Fm (fun w S => PhAt w S b f) := by
  rintro w w' S S' ⟨a, c, h⟩ hf
  exact ⟨a, c, Side.fm w w' S S' h hf⟩

/-- The machine's state. The heap is told by a part that is handed in, and so is what the collector has besides. -/
structure MS where
  fs : List (List In)
  nglob : Int
  words : Int
  percent : Int
  on : Bool
  part : Int
  hp : Nat → Cmp
  st : List Int
  gs : List Gor
  ps : List Prc
  rows : List (List Int)
  common : List Int
  tim : List Tm
  waits : List (List Int)
  globals : List Int
  clock : Int
  ph : PhS
  gc : Option Addr → Option Addr → Option Addr → List (Option Addr × Option Addr) → Cmp
  goal : GoalT
  force : Int
  parked : List Int
  commits : List Cmt
  freed : List Int
  steps : Int
  out : Bool
/-- Where its parts lie. -/
structure ML where
  (hp st sc tm wt ph : Nat)
  (fa ga pa la ka ca ea : Option Addr)
  (fc gc pc lc kc cc ec : Nat)
  (gb pb : List Nat)
  (pool roots credit : Option Addr)
def mC (σ : MS) (L : ML) : List Value :=
  [i64 σ.nglob, .slice L.fa σ.fs.length L.fc, i64 σ.words, i64 σ.percent, .bool σ.on, i64 σ.part, pt L.hp, pt L.st, .slice L.ga (pts L.gb).length L.gc, .slice L.pa (pts L.pb).length L.pc, pt L.sc, pt L.tm, pt L.wt,
   .slice L.la (ints σ.globals).length L.lc, i64 σ.clock, pt L.ph, .pointer L.pool, .pointer L.roots, .pointer L.credit, i64 σ.goal.trig, i64 σ.goal.goal, i64 σ.goal.ratio, i64 σ.force,
   .slice L.ka (ints σ.parked).length L.kc, .slice L.ca (σ.commits.map cmC).length L.cc, .slice L.ea (ints σ.freed).length L.ec, i64 σ.steps, .bool σ.out]
def cFn (a : Option Addr) (c : Nat) (fs : List (List In)) : Cmp := ⟨fun w S => FnAt w S a c fs, FnAt.fm⟩
def cSt (b : Nat) (l : List Int) : Cmp := ⟨fun w S => StAt w S b l, StAt.fm⟩
def cSc (b : Nat) (rows : List (List Int)) (common : List Int) : Cmp := ⟨fun w S => ScAt w S b rows common, ScAt.fm⟩
def cTm (b : Nat) (l : List Tm) : Cmp := ⟨fun w S => TmAt w S b l, TmAt.fm⟩
def cWt (b : Nat) (ws : List (List Int)) : Cmp := ⟨fun w S => WtAt w S b ws, WtAt.fm⟩
def cPh (b : Nat) (f : PhS) : Cmp := ⟨fun w S => PhAt w S b f, PhAt.fm⟩
/-- The parts: 0 the machine's own cells, 1 the program, 2 the heap, 3 the states, 4, 5 the goroutines, 6, 7 the Ps, 8 the queues, 9 who sleeps, 10 who waits, 11 the globals, 12 the phases, 13 the collector's, 14 who is parked, 15 the commits, 16 what was freed. -/
def mP (b : Nat) (σ : MS) (L : ML) : List Cmp :=
  [cAt b (B (mC σ L) 114), cFn L.fa L.fc σ.fs, σ.hp L.hp, cSt L.st σ.st, cVS 118 L.ga L.gc (pts L.gb), cRc 121 L.gb (σ.gs.map gorC), cVS 124 L.pa L.pc (pts L.pb), cRc 128 L.pb (σ.ps.map prcC), cSc L.sc σ.rows σ.common,
   cTm L.tm σ.tim, cWt L.wt σ.waits, cVS 3 L.la L.lc (ints σ.globals), cPh L.ph σ.ph, σ.gc L.pool L.roots L.credit (σ.ps.map prcN), cVS 3 L.ka L.kc (ints σ.parked), cMSl 53 6 L.ca L.cc (σ.commits.map cmC), cVS 3 L.ea L.ec (ints σ.freed)]
def MAt (w : World) (S : Nat → Prop) (b : Nat) (σ : MS) : Prop := ∃ L, Side w S (mP b σ L)
theorem MAt.fm {b : Nat} {σ : MS} : Fm (fun w S => MAt w S b σ) := by
  rintro w w' S S' ⟨L, h⟩ hf
  exact ⟨L, Side.fm w w' S S' h hf⟩
end Go.E
end
