/- What is made at the beginning; what is asked. -/
import Derived.Test.YtnbekdcepnfpaaaGreatDoorG12
import Derived.Test.YtnbekdcepnfpaaaGreatDoorG14
set_option linter.unusedVariables false
set_option linter.unusedSimpArgs false
set_option maxRecDepth 10000
noncomputable section
namespace Go.E
open Go Go.Proofs

theorem barrier_new (w : World) : Calls PP 96 #[] w (fun e w' => ∃ b, e = .returned (pt b) ∧ New w w' b (B (List.replicate 33 (i64 0)) 218)) := by
  refine calls_den (fn := Tryz.f96) (args := []) Tryz.func96 rfl (by simp) (fun R hR => ?_)
  refine RUN.box (fun b1 w1 n1 => ?_)
  exact hR _ _ ⟨b1, rfl, n1⟩
theorem timer_new (w : World) : Calls PP 94 #[] w (fun e w' => ∃ b, e = .returned (pt b) ∧ TmAt w' (· = b) b [] ∧ b = w.heap.size ∧ Ext w w') := by
  refine calls_den (fn := Tryz.f94) (args := []) Tryz.func94 rfl (by simp) (fun R hR => ?_)
  refine RUN.box (fun b1 w1 n1 => ?_)
  refine hR _ _ ⟨b1, rfl, ⟨none, 0, 0, ⟨⟨by omega, by omega⟩, by simp⟩, fun y => 0, fun i c hi => ?_⟩, n1.blk, n1.ext⟩
  rcases i with _ | _ | i
  · simp at hi; subst hi
    exact ⟨⟨rfl, rfl⟩, n1.here⟩
  · simp at hi; subst hi
    exact MSl.nil _ _ _ _
  · simp at hi
def noRw : Rw := ⟨none, 0, []⟩
theorem wait_new (w : World) : Calls PP 95 #[] w (fun e w' => ∃ b, e = .returned (pt b) ∧ WtAt w' (· = b) b (List.replicate 32 []) ∧ b = w.heap.size ∧ Ext w w') := by
  refine calls_den (fn := Tryz.f95) (args := []) Tryz.func95 rfl (by simp) (fun R hR => ?_)
  refine RUN.box (fun b1 w1 n1 => ?_)
  refine hR _ _ ⟨b1, rfl, ⟨List.replicate 32 noRw, by simp [noRw], by simp, fun y => 0, fun i c hi => ?_⟩, n1.blk, n1.ext⟩
  rcases i with _ | i
  · simp only [List.getElem?_cons_zero, Option.some.injEq] at hi
    subst hi
    exact ⟨⟨rfl, rfl⟩, n1.here⟩
  · simp only [List.getElem?_cons_succ, List.map_replicate, List.getElem?_replicate] at hi
    split at hi
    · cases hi
      exact VS.nil _ _ _
    · cases hi
theorem RUN.mkslice {t e eb : Nat} {x y : Operand} {z : Value} {l c : Int} {k1 k2 : IntKind} {n : Nat} {ty : TypeId} {w : World} {K : Value → World → Prop} {X : List PanicEntry → World → Prop} (ht : inTau t = true) (hk : (tau t).k = .slice e 1 eb) (he : known e = true) (hz : (tau e).zero = some [z])
    (hn : l = n) (hm : c = n) (hb : n ≤ 2 ^ 40) (heb : Nat.ble eb 256 = true)
    (k : ∀ b w', New w w' b (B (List.replicate n z) e) → K (.slice (some ⟨b, 0, none⟩) (List.replicate n z).length n) w') : RUN (.makeSlice t x y) ty [.int k1 l, .int k2 c] w K X := by
  refine RUN.makeSlice ht hk he hz rfl hn hm (Nat.le_refl _) hb heb (fun b w' h => ?_)
  rw [zerosOf_one] at h
  have := k b w' h
  rwa [List.length_replicate] at this
theorem VS.made {w w' : World} {b T : Nat} {cs : List Value} (h : New w w' b (B cs T)) (S : Nat → Prop) (hs : S b) {c : Nat} (hc : c = cs.length) : VS w' S T (some ⟨b, 0, none⟩) c cs := by
  subst hc; exact VS.of_new h S hs
theorem phase_new {ps : Int} (hp : 1 ≤ ps ∧ ps ≤ 64) (w : World) : Calls PP 92 #[i64 ps] w (fun e w' => ∃ b, e = .returned (.tuple #[pt b, i64 0]) ∧ PhAt w' (fun y => w.heap.size ≤ y) b ⟨0, 0, List.replicate ps.toNat false, 0, 0⟩ ∧ Ext w w') := by
  refine calls_den (fn := Tryz.f92) (args := [_]) Tryz.func92 rfl (by simp) (fun R hR => ?_)
  refine CLt.no (by omega) ?_
  refine CLt.no (by omega) ?_
  refine RUN.mkslice (n := ps.toNat) rfl rfl rfl rfl (by omega) (by omega) (by omega) rfl (fun b1 w1 n1 => ?_)
  refine RUN.box (fun b2 w2 n2 => ?_)
  have h1 := n1.blk
  have h2 := n2.blk
  have z1 := n1.ext.size
  refine hR _ _ ⟨b2, rfl, ⟨some ⟨b1, 0, none⟩, ps.toNat, fun y => if y = b2 then 0 else 1, fun i c hi => ?_⟩, n1.ext.trans' n2.ext⟩
  have e1 : (List.replicate ps.toNat false).map Value.bool = List.replicate ps.toNat (.bool false) := by simp
  rcases i with _ | _ | i
  · simp at hi; subst hi
    refine ⟨⟨by omega, by simp⟩, ?_⟩
    have h := n2.here
    rw [List.length_replicate] at h
    exact h
  · simp only [List.getElem?_cons_succ, List.getElem?_cons_zero, Option.some.injEq] at hi
    subst hi
    show VS w2 _ 4 _ _ _
    rw [e1]
    refine VS.fm.ext (VS.made n1 _ ⟨by omega, ?_⟩ (by simp)) n2.ext
    have : b1 ≠ b2 := by have := n1.here.lt; omega
    simp only [if_neg this]
  · simp at hi
theorem central_new (w : World) : Calls PP 140 #[] w (fun e w' => ∃ b, e = .returned (pt b) ∧ b < w'.heap.size ∧ Ext w w') := by
  refine calls_den (fn := Tryz.f140) (args := []) Tryz.func140 rfl (by simp) (fun R hR => ?_)
  refine CALL.by (count_any w) rfl ?_
  rintro e w1 ⟨rfl, x1⟩
  refine RUN.makeSlice (n := 16) (m := 16) rfl rfl rfl rfl rfl rfl rfl (Nat.le_refl _) (by decide) rfl (fun b2 w2 n2 => ?_)
  refine RUN.box (fun b3 w3 n3 => ?_)
  exact hR _ _ ⟨b3, rfl, n3.here.lt, (x1.trans' n2.ext).trans' n3.ext⟩
/-- Pages that are all free. -/
def pgC (b : Nat) (n : Int) (a : Option Addr) (c : Nat) : List Cmp := [cAt b (B [i64 n, .slice a 1 c] 266), cMSl 177 2 a c [[i64 1, i64 (n - 1)]]]
theorem page_new {n : Int} (hn : 2 ≤ n ∧ n ≤ 262144) (w : World) : Calls PP 194 #[i64 n] w (fun e w' => ∃ b a c S, e = .returned (pt b) ∧ Rn w (fun _ => False) w' S (pgC b n a c)) := by
  refine calls_den (fn := Tryz.f194) (args := [_]) Tryz.func194 rfl (by simp) (fun R hR => ?_)
  refine RUN.max2 (fun r1 g1 => ?_)
  refine RUN.min2 (fun r2 g2 => ?_)
  refine RUN.box (fun b1 w1 n1 => ?_)
  have e2 : r2 = n := by omega
  subst e2
  clear g2 g1
  refine RUN.ld n1.here rfl (rfl) ?_
  refine CLt.yes (by omega) ?_
  refine RUN.ld n1.here rfl (rfl) ?_
  refine ART.sub (by omega) (fun r3 g3 => ?_)
  subst g3
  refine RUN.buildSlice rfl rfl rfl rfl rfl rfl rfl (fun b2 w2 n2 => ?_)
  refine RUN.stl (n2.at n1.here) rfl (by simp [cellsOf]) (fun w3 u3 => ?_)
  have R0 := Rn.nil w
  obtain ⟨S1, R1, k1⟩ := R0.add1 n1
  obtain ⟨S2, R2, k2⟩ := R1.add (cMSl 177 2 (some ⟨b2, 0, none⟩) 1 [[i64 1, i64 (r2 - 1)]]) n2.ext (T := fun y => y = b2) ⟨by simp, Sl.of_new n2 rfl _ rfl⟩ (by rintro y rfl; have := n2.blk; omega)
  have R3 := R2.st 0 rfl u3
  exact hR _ _ ⟨b1, _, _, S2, rfl, R3⟩
/-- A heap in which nothing is. -/
def hpC (b ab cb pb s o ob : Nat) (n : Int) (ra : Option Addr) (rc : Nat) (own : Value) : List Cmp :=
  [cAt b (B [pt ab, pt cb, own] 197), cAt ab (B [pt pb, .map (some s), .map (some o), .map (some ob), i64 0] 172), cMp s [], cMp ob [], cAt pb (B [i64 n, .slice ra 1 rc] 266), cMSl 177 2 ra rc [[i64 1, i64 (n - 1)]]]
def Hp0 (w : World) (S : Nat → Prop) (b : Nat) (n : Int) : Prop := ∃ ab cb pb s o ob ra rc own, Side w S (hpC b ab cb pb s o ob n ra rc own)
theorem Hp0.fm {b : Nat} {n : Int} : Fm (fun w S => Hp0 w S b n) := by
  rintro w w' S S' ⟨ab, cb, pb, s, o, ob, ra, rc, own, h⟩ hf
  exact ⟨ab, cb, pb, s, o, ob, ra, rc, own, Side.fm w w' S S' h hf⟩
def cHp0 (n : Int) (b : Nat) : Cmp := ⟨fun w S => Hp0 w S b n, Hp0.fm⟩
theorem arena_new {words n : Int} (hw : 256 ≤ words ∧ words ≤ 16777216) (hn : words = 64 * n) (w : World) :
    Calls PP 139 #[i64 words] w (fun e w' => ∃ ab pb s o ob ra rc S, e = .returned (.tuple #[pt ab, i64 0]) ∧ Rn w (fun _ => False) w' S [cAt pb (B [i64 n, .slice ra 1 rc] 266), cMSl 177 2 ra rc [[i64 1, i64 (n - 1)]], cMp s [], cMp ob [], cAt ab (B [pt pb, .map (some s), .map (some o), .map (some ob), i64 0] 172)]) := by
  refine calls_den (fn := Tryz.f139) (args := [_]) Tryz.func139 rfl (by simp) (fun R hR => ?_)
  refine CLt.no (by omega) ?_
  refine CLt.no (by omega) ?_
  refine ART.rem (by omega) (by omega) (fun r1 g1 => ?_)
  refine CEq.yes (by omega) ?_
  refine ART.quo (by omega) (by omega) (by omega) (fun r2 g2 => ?_)
  have e2 : r2 = n := by omega
  subst e2
  refine CALL.by (page_new (by omega) w) rfl ?_
  rintro e w1 ⟨pb, ra, rc, S1, rfl, R1⟩
  refine RUN.makeMap (fun s w2 n2 => ?_)
  refine RUN.makeMap (fun o w3 n3 => ?_)
  refine RUN.makeMap (fun ob w4 n4 => ?_)
  refine RUN.box (fun ab w5 n5 => ?_)
  obtain ⟨S2, R2, k2⟩ := R1.add (cMp s []) n2.ext (T := fun y => y = s) (MpAt.new n2 _ rfl) (by rintro y rfl; have := n2.blk; omega)
  obtain ⟨S3, R3, k3⟩ := (R2.ext n3.ext).add (cMp ob []) n4.ext (T := fun y => y = ob) (MpAt.new n4 _ rfl) (by rintro y rfl; have := n4.blk; omega)
  obtain ⟨S4, R4, k4⟩ := R3.add1 n5
  exact hR _ _ ⟨ab, pb, s, o, ob, ra, rc, S4, rfl, R4⟩
end Go.E
end
