/- A machine that is told. -/
import Derived.Test.YtnbekdcepnfpaaaGreatDoorG27
set_option linter.unusedVariables false
set_option linter.unusedSimpArgs false
set_option maxRecDepth 10000
noncomputable section
namespace Go.E
open Go Go.Proofs

def zc : Value := .agg #[i64 0, i64 0, i64 0, i64 0, i64 0, .bool false]
theorem g53 : PP.eqGuardType PP.depth 53 = false := by kernel_rfl
theorem e53 (w : World) : (Op.equal 53 zc zc).run PP w = .ok true w := by kernel_rfl
theorem RUN.eq53 {x y : Operand} {g ty : TypeId} {w : World} {K : Value → World → Prop} {X : List PanicEntry → World → Prop} (k : K (.bool true) w) : RUN (.binOp .eql 53 x y g) ty [zc, zc] w K X := by
  refine .ok _ w ?_ k
  show (do eqGuard .eql 53 x y zc zc; binOp .eql 53 zc zc : Sem Value).run PP w = _
  have h1 : (eqGuard .eql 53 x y zc zc).run PP w = .ok () w := by
    unfold eqGuard zc
    simp [g53]
  have h2 : (binOp .eql 53 zc zc).run PP w = .ok (.bool true) w := by
    unfold binOp zc
    have := e53 w
    unfold zc at this
    simp [this]
  simp [h1, h2]
theorem mnew_bad {w : World} {U : Nat → Prop} {A : Option Addr} {C : Nat} {f1 f2 : Nat} (hb : BS w U A C badB) :
    Calls PP 52 #[.agg #[i64 2, i64 256, .float .f64 f1, .float .f64 f2], .slice A (u8s badB).length C] w (fun e w' => e = .returned (.tuple #[.pointer none, i64 6, i64 3]) ∧ Ext w w') := by
  refine calls_den (fn := Tryz.f52) (args := [_, _]) Tryz.func52 rfl (by simp) (fun R hR => ?_)
  refine RUN.box (fun b2 w1 n1 => ?_)
  refine RUN.lda (vs := [i64 2, i64 256, .float .f64 f1, .float .f64 f2]) n1.here rfl (Nat.le_of_ble_eq_true rfl) rfl ?_
  refine CALL.by (may_any 2 256 f1 f2 w1) rfl ?_
  rintro e w2 ⟨rfl, x2⟩
  rw [decide_eq_true (by omega)]
  refine CALL.by (decode_bad (BS.fm.ext hb (n1.ext.trans' x2))) rfl ?_
  rintro e w3 ⟨rfl, x3⟩
  refine RUN.alloc rfl rfl (fun b7 w4 n4 => ?_)
  refine RUN.sta (vs := [i64 0, nils]) n4.here rfl (by simp) (by simp [Value.oneCell']) (fun w5 u5 => ?_)
  refine CEq.no (by omega) ?_
  exact hR _ _ ⟨rfl, ((n1.ext.trans' x2).trans' x3).trans' (n4.ext.trans u5.ch (fun y hy hb => by have := n4.blk; omega))⟩
def toldP : List (List In) := [[⟨0, 0, 0, 0⟩]]
theorem told_plain : plainP toldP := ⟨by decide, by decide, fun l hl i hi => by
  simp [toldP] at hl
  subst hl
  simp at hi
  subst hi
  exact .inl rfl⟩
theorem told_ok : okP 0 toldP := ⟨by decide, by decide, by decide, fun l hl => by
  simp [toldP] at hl
  subst hl
  refine ⟨by decide, by decide, fun i hi => ?_⟩
  simp at hi
  subst hi
  exact ⟨by decide, by decide, by decide, by decide⟩⟩
theorem cg_len {σ : MS} (h : Inv σ) : (coreM σ).gs.length = σ.st.length := coreM_len h.gl
theorem cg_get {σ : MS} (h : Inv σ) {n : Nat} {s : Int} (hs : σ.st[n]? = some s) : ∃ z, (coreM σ).gs[n]? = some z ∧ z.st = if s = 2 then 1 else s := by
  have hl : n < σ.gs.length := by rw [h.gl]; exact st_lt hs
  refine ⟨cg1 s σ.gs[n], ?_, rfl⟩
  show (List.zipWith cg1 σ.st σ.gs)[n]? = _
  rw [List.getElem?_zipWith, hs, List.getElem?_eq_getElem hl]
theorem count_all {l : List Int} {k : Int} (h : ∀ s ∈ l, s = k) : cntI k l = l.length := by
  unfold cntI
  rw [List.count_eq_length.2 (fun s hs => (h s hs).symm)]
/-- All dead. -/
theorem status_dead {σ : MS} (h : Inv σ) (hd : ∀ z ∈ (coreM σ).gs, z.st = 5) : statusF σ = 1 := by
  unfold statusF
  rw [if_neg (by rw [h.out]; decide), if_pos]
  refine count_all fun s hs => ?_
  obtain ⟨n, hn⟩ := List.getElem?_of_mem hs
  obtain ⟨z, hz, he⟩ := cg_get h hn
  have := hd z (List.mem_of_getElem? hz)
  rw [this] at he
  split at he
  · omega
  · omega
theorem told_in (w : World) : Calls PP 22 #[] w (Pure w (.bool true)) := by
  refine calls_den (fn := Tryz.f22) (args := []) Tryz.func22 rfl (by simp) (fun R hR => ?_)
  refine RUN.buildSlice rfl rfl rfl rfl rfl rfl rfl (fun b1 w1 n1 => ?_)
  have v1 : BS w1 (· = b1) (some ⟨b1, 0, none⟩) 7 (encP 0 toldP) := BS.of (VS.of_new n1 (· = b1) rfl) (by decide)
  refine CALL.by (mnew_ok (g := 0) (fs := toldP) (n := 4) v1 told_ok ⟨by decide, by decide⟩ ⟨by decide, by decide⟩ rfl) rfl ?_
  rintro e w2 ⟨b, bs, pct, rfl, m2, hbl, x2⟩
  refine RUN.buildSlice rfl rfl rfl rfl rfl rfl rfl (fun b3 w3 n3 => ?_)
  have v3 : BS w3 (· = b3) (some ⟨b3, 0, none⟩) 7 badB := BS.of (VS.of_new n3 (· = b3) rfl) (by decide)
  refine CALL.by (mnew_bad v3) rfl ?_
  rintro e w4 ⟨rfl, x4⟩
  have hbl2 : bs.length = 2 := by omega
  have x14 := (n3.ext.trans' x4)
  have m4 := MAt.fm.ext m2 x14
  have y4 : Ext w w4 := (n1.ext.trans' x2).trans' x14
  obtain ⟨I0, c0⟩ := inv0 (g := 0) (bs := bs) (words := 256) (n := 4) (pct := pct) (f1 := 0) (f2 := 0) told_plain.len (by omega) (by decide)
  generalize hσ : spawnF (ms0 0 toldP bs 256 4 pct 0 0) 0 0 0 = σ0 at *
  have hst : statusF σ0 = 0 := by rw [← hσ]; rfl
  have hcm : σ0.commits = [] := by rw [← hσ]; rfl
  have hfs : σ0.fs = toldP := by rw [← hσ]; rfl
  have hps : σ0.ps = bs.map prc0 := by rw [← hσ]; rfl
  have hsz := (n1.ext.size)
  have hstp : σ0.steps = 0 := by rw [← hσ]; rfl
  have hrow : row σ0 0 ≠ [] := by
    rw [← hσ]
    obtain ⟨a, c, rfl⟩ : ∃ a c, bs = [a, c] := by
      rcases bs with _ | ⟨a, _ | ⟨c, _ | ⟨d, t⟩⟩⟩ <;> simp at hbl2
      exact ⟨a, c, rfl⟩
    simp [row, spawnF, readyF, ms0, rput]
  refine CEq.yes (rfl) ?_
  refine CEq.yes (rfl) ?_
  refine CEq.yes (rfl) ?_
  refine CEq.yes (rfl) ?_
  refine LOOP.inv (X := Nat) (fun i => [(1, pt b), (7, i64 i)]) (fun i w' => ∃ σ, MAt w' (fun y => w.heap.size ≤ y) b σ ∧ Inv σ ∧ Ext w w' ∧ ((i = 0 ∧ σ = σ0) ∨ (i = 1 ∧ statusF σ = 1 ∧ σ.commits = [⟨0, 0, 0, 0, 0, false⟩]))) (fun i => 2 - i) 0 ⟨rfl, rfl, trivial⟩ ⟨σ0, MAt.fm.mono m4 (fun y _ hy => by omega), I0, y4, .inl ⟨rfl, rfl⟩⟩ ?_
  rintro i w5 ⟨σ, m5, I5, y5, h5⟩ j5
  rcases h5 with ⟨rfl, rfl⟩ | ⟨rfl, h1, h2⟩
  · refine CLt.yes ((by decide)) ?_
    refine CALL.by (status_in m5) rfl ?_
    rintro e w6 ⟨rfl, x6⟩
    refine CEq.yes (hst) ?_
    refine ART.rem (by omega) (by omega) (fun r1 g1 => ?_)
    refine ART.rem (by omega) (by omega) (fun r2 g2 => ?_)
    refine ART.sub (by omega) (fun r3 g3 => ?_)
    have hp0 : 0 < σ.ps.length := by rw [hps]; simp; omega
    refine CALL.by (step_in (p := 0) (pre := false) (d := 0) (MAt.fm.ext m5 x6) I5 (by omega) (by rw [g1]; rfl) hp0 (fun z _ _ => by rw [hfs]; exact told_plain.at _ _)) rfl ?_
    rintro e w7 ⟨σ', ss, m7, c7⟩
    have hb0 : ∃ b0, σ.ps[0]? = some (prc0 b0) := by
      rw [hps]
      obtain ⟨a, t, rfl⟩ : ∃ a t, bs = a :: t := by
        rcases bs with _ | ⟨a, t⟩
        · simp at hbl2
        · exact ⟨a, t, rfl⟩
      exact ⟨a, rfl⟩
    obtain ⟨b0, hb0⟩ := hb0
    rcases ss.out with ⟨k, g, hk, rfl, hc, hm, hidle⟩ | ⟨g, z, cm, rfl, _, hz, hz1, hcx, hm⟩
    · exfalso
      rcases hidle with h | h | ⟨x, hx, h⟩
      · exact h hst
      · cases h
      · rw [hb0] at hx
        cases hx
        rcases h with h | h
        · have : (2 : Int) ≤ 0 := h
          omega
        · exact hrow h.2.1
    · have hsz5 : w.heap.size ≤ w6.heap.size := (y5.trans' x6).size
      have hg : g = 0 ∧ z = ⟨1, 0, 0, 0, stk0 0⟩ := by
        rw [c0] at hz
        rcases g with _ | g
        · simp [core0] at hz
          exact ⟨rfl, hz.symm⟩
        · simp [core0] at hz
      obtain ⟨rfl, rfl⟩ := hg
      rw [c0, hfs] at hcx
      have e1 : cex (core0 0) 0 ⟨1, 0, 0, 0, stk0 0⟩ (instAt toldP 0 0) = ({ core0 0 with gs := [⟨5, 0, 1, 0, stk0 0⟩] }, ⟨0, 0, 0, 0, 0, false⟩) := rfl
      rw [show (⟨1, 0, 0, 0, stk0 0⟩ : CG).f = 0 from rfl, show (⟨1, 0, 0, 0, stk0 0⟩ : CG).pc = 0 from rfl, e1] at hcx
      have h1 : coreM σ' = { core0 0 with gs := [⟨5, 0, 1, 0, stk0 0⟩] } := (Prod.mk.inj hcx).1.symm
      have h2 : cm = ⟨0, 0, 0, 0, 0, false⟩ := (Prod.mk.inj hcx).2.symm
      refine ART.add (by omega) (fun r4 hr4 => ?_)
      refine Nxt.mk (1) ?_ ?_ ?_
      · exact ⟨rfl, by subst hr4; rfl, trivial⟩
      · refine ⟨σ', MAt.fm.mono m7 (fun y _ hy => ?_), ss.inv, (y5.trans' x6).trans c7 (fun y hy hh => by omega), .inr ⟨rfl, status_dead ss.inv (fun z hz => ?_), by rw [hm, hcm, h2]; rfl⟩⟩
        · rcases hy with hy | hy
          · exact hy
          · omega
        · rw [h1] at hz
          simp at hz
          rw [hz]
      · decide
  · refine CLt.yes ((by decide)) ?_
    refine CALL.by (status_in m5) rfl ?_
    rintro e w6 ⟨rfl, x6⟩
    refine CEq.no (by omega) ?_
    refine CALL.by (mcommit_in (j := 0) (MAt.fm.ext m5 x6) rfl (by rw [h2]; rfl)) rfl ?_
    rintro e w7 ⟨rfl, x7⟩
    refine RUN.alloc rfl rfl (fun b8 w8 n8 => ?_)
    refine RUN.sta (vs := [i64 0, i64 0, i64 0, i64 0, i64 0, .bool false]) n8.here rfl (by simp) (by simp [Value.oneCell']) (fun w9 u9 => ?_)
    have x9 : Ext w5 w9 := (x6.trans' x7).trans' (n8.ext.trans u9.ch (fun y hy hb => by have := n8.blk; omega))
    refine CALL.by (status_in (MAt.fm.ext m5 x9)) rfl ?_
    rintro e w10 ⟨rfl, x10⟩
    refine CEq.yes (h1) ?_
    refine CALL.by (mcommits_in (MAt.fm.ext m5 (x9.trans' x10))) rfl ?_
    rintro e w11 ⟨rfl, x11⟩
    refine CEq.yes ((by rw [h2]; rfl)) ?_
    refine RUN.lda (vs := [i64 0, i64 0, i64 0, i64 0, i64 0, .bool false]) (x11.at (x10.at u9.here)) rfl (Nat.le_of_ble_eq_true rfl) rfl ?_
    refine RUN.eq53 ?_
    exact hR _ _ ⟨rfl, ((y5.trans' x9).trans' x10).trans' x11⟩
end Go.E
end
/- Room; the reference's sizes. -/
set_option linter.unusedVariables false
set_option linter.unusedSimpArgs false
set_option maxRecDepth 10000
noncomputable section
namespace Go.E
open Go Go.Proofs

theorem rsizes_in (w : World) : Calls PP 85 #[] w (fun e w' => ∃ b, e = .returned (.slice (some ⟨b, 0, none⟩) 16 16) ∧ At w' b (B (ints szs) 3) ∧ Ext w w') := by
  refine calls_den (fn := Tryz.f85) (args := []) Tryz.func85 rfl (by simp) (fun R hR => ?_)
  refine RUN.buildSlice rfl rfl rfl rfl rfl rfl rfl (fun b1 w1 n1 => ?_)
  exact hR _ _ ⟨b1, rfl, n1.here, n1.ext⟩
theorem rsize_in {x : Int} {k : Nat} (hx : x = k) (hk : k < 16) (w : World) : Calls PP 51 #[i64 x] w (Pure w (i64 (csz k))) := by
  subst hx
  refine calls_den (fn := Tryz.f51) (args := [_]) Tryz.func51 rfl (by simp) (fun R hR => ?_)
  refine CLt.no (by omega) ?_
  refine CLt.no (by omega) ?_
  refine CALL.by (rsizes_in w) rfl ?_
  rintro e w1 ⟨b, rfl, h1, x1⟩
  refine BD.mk (0 + k * 1) (by first | exact ⟨by decide, by decide, rfl⟩ | exact ⟨by omega, by omega, by omega⟩) ?_
  refine RUN.ld (v := i64 (csz k)) h1 rfl (by rw [show 0 + k * 1 = k by omega]; exact ints_get (csz_get hk)) ?_
  exact hR _ _ ⟨rfl, x1⟩
theorem rof_in {n : Int} {k : Nat} (hn : 1 ≤ n ∧ n ≤ 256) (hk : IsCl n k) (w : World) : Calls PP 21 #[i64 n] w (Pure w (i64 k)) := by
  obtain ⟨h1, h2, h3⟩ := hk
  refine calls_den (fn := Tryz.f21) (args := [_]) Tryz.func21 rfl (by simp) (fun R hR => ?_)
  refine CLt.no (by omega) ?_
  refine CLt.no (by omega) ?_
  refine LOOP.inv (X := Nat) (fun i => [(0, i64 n), (3, i64 i)]) (fun i w' => i ≤ k ∧ Ext w w') (fun i => k - i) 0 ⟨rfl, rfl, trivial⟩ ⟨Nat.zero_le _, Ext.refl w⟩ ?_
  rintro i w1 ⟨hi, x1⟩ j
  refine CALL.by (rsize_in rfl (by omega) w1) rfl ?_
  rintro e w2 ⟨rfl, x2⟩
  rcases Nat.lt_or_eq_of_le hi with hlt | rfl
  · have := h3 i hlt
    refine CLt.yes (by omega) ?_
    refine ART.add (by omega) (fun r hr => ?_)
    refine Nxt.mk (i + 1) ?_ ?_ ?_
    · exact ⟨rfl, by subst hr; rfl, trivial⟩
    · exact ⟨hlt, x1.trans' x2⟩
    · omega
  · refine CLt.no (by omega) ?_
    exact hR _ _ ⟨rfl, x1.trans' x2⟩
theorem rpages_in {x : Int} {k : Nat} (hx : x = k) (hk : k < 16) (w : World) : Calls PP 24 #[i64 x] w (Pure w (i64 (cpg k))) := by
  have hz := csz_bd hk
  have hp := cpg_bd hk
  refine calls_den (fn := Tryz.f24) (args := [_]) Tryz.func24 rfl (by simp) (fun R hR => ?_)
  refine CALL.by (rsize_in hx hk w) rfl ?_
  rintro e w1 ⟨rfl, x1⟩
  refine CEq.no (by omega) ?_
  refine LOOP.inv (X := Nat) (fun p => [(3, i64 (csz k)), (4, i64 p)]) (fun p w' => 1 ≤ p ∧ (p : Int) ≤ cpg k ∧ w' = w1) (fun p => 5 - p) 1 ⟨rfl, rfl, trivial⟩ ⟨Nat.le_refl _, by omega, rfl⟩ ?_
  rintro p _ ⟨hp1, hp2, rfl⟩ j
  have hiff := pg_iff' hk hp1 hp2
  have hm := Int.emod_nonneg ((p : Int) * 64) (by omega : csz k ≠ 0)
  have hm2 := Int.emod_lt_of_pos ((p : Int) * 64) (by omega : 0 < csz k)
  refine ART.mul (by omega) (fun a ha => ?_)
  subst ha
  by_cases hge : csz k ≤ (p : Int) * 64
  · refine CLt.no ((by omega)) ?_
    refine ART.rem (by omega) (by omega) (fun r hr => ?_)
    refine ART.mul (by omega) (fun s hs => ?_)
    subst hr hs
    by_cases hq : (p : Int) = cpg k
    · have := (hiff.2 hq).2
      refine CLt.no ((by omega)) ?_
      exact hR _ _ ⟨by rw [← hq]; rfl, x1⟩
    · refine CLt.yes ((Int.not_le.1 fun h => hq (hiff.1 ⟨hge, h⟩))) ?_
      refine ART.add (by omega) (fun r hr => ?_)
      refine Nxt.mk (p + 1) ?_ ?_ ?_
      · exact ⟨rfl, by subst hr; rfl, trivial⟩
      · exact ⟨by omega, by omega, rfl⟩
      · omega
  · have hq : (p : Int) ≠ cpg k := fun h => hge (hiff.2 h).1
    refine CLt.yes ((by omega)) ?_
    refine ART.add (by omega) (fun r hr => ?_)
    refine Nxt.mk (p + 1) ?_ ?_ ?_
    · exact ⟨rfl, by subst hr; rfl, trivial⟩
    · exact ⟨by omega, by omega, rfl⟩
    · omega
theorem rslots_in {x : Int} {k : Nat} (hx : x = k) (hk : k < 16) (w : World) : Calls PP 25 #[i64 x] w (Pure w (i64 (cst k))) := by
  have hz := csz_bd hk
  have hp := cpg_bd hk
  refine calls_den (fn := Tryz.f25) (args := [_]) Tryz.func25 rfl (by simp) (fun R hR => ?_)
  refine CALL.by (rsize_in hx hk w) rfl ?_
  rintro e w1 ⟨rfl, x1⟩
  refine CEq.no (by omega) ?_
  refine CALL.by (rpages_in hx hk w1) rfl ?_
  rintro e w2 ⟨rfl, x2⟩
  refine ART.mul (by omega) (fun a ha => ?_)
  refine CALL.by (rsize_in hx hk w2) rfl ?_
  rintro e w3 ⟨rfl, x3⟩
  refine ART.quo (by omega) (by omega) (by omega) (fun r hr => ?_)
  have : r = cst k := by rw [hr, ha, cst_eq hk]
  subst this
  exact hR _ _ ⟨rfl, (x1.trans' x2).trans' x3⟩
end Go.E
end
/- Room in a heap in which nothing is. -/
set_option linter.unusedVariables false
set_option linter.unusedSimpArgs false
set_option maxRecDepth 10000
noncomputable section
namespace Go.E
open Go Go.Proofs

theorem cloneR_in {w : World} {U : Nat → Prop} {a : Option Addr} {c : Nat} {r : List Value} (h : MSl w U 177 2 a c [r]) (hsc : ∀ v ∈ r, v.oneCell' = true) :
    Calls PP 178 #[.slice a 1 c] w (fun e w' => (∃ a' c', e = .returned (.slice a' 1 c') ∧ MSl w' (fun y => w.heap.size ≤ y) 177 2 a' c' [r]) ∧ Ext w w') := by
  obtain ⟨b, o, pre, post, rfl, h1, h2, h3, _⟩ := h.open (by simp)
  have hr : r.length = 2 := h.1 r (by simp)
  refine calls_den (fn := Tryz.f178) (args := [_]) Tryz.func178 rfl (by simp) (fun R hR => ?_)
  refine RUN.buildSlice rfl rfl rfl rfl rfl rfl rfl (fun b1 w1 n1 => ?_)
  refine RUN.append rfl rfl rfl rfl rfl rfl (Sl.of_new n1 (k := 2) (n := 0) (by rfl) (fun y => w.heap.size ≤ y) (by have := n1.blk; omega)) (Sl.fm.ext h.2 n1.ext) (by simpa using hsc) (by simp) rfl (fun a' c' w2 hv hc => ?_)
  obtain ⟨S', o', q'⟩ := hv
  have hz := n1.ext.size
  refine hR _ _ ⟨⟨a', c', rfl, ⟨by simpa using hr, Sl.fm.mono q' fun y _ hy => ?_⟩⟩, n1.ext.trans hc (fun y hy hh => by omega)⟩
  rcases o' y hy with h | h <;> omega
theorem runs_in {w : World} {U : Nat → Prop} {pb c : Nat} {n : Int} {a : Option Addr} {r : List Value} (hp : At w pb (B [i64 n, .slice a 1 c] 266)) (h : MSl w U 177 2 a c [r]) (hsc : ∀ v ∈ r, v.oneCell' = true) :
    Calls PP 113 #[pt pb] w (fun e w' => (∃ a' c', e = .returned (.slice a' 1 c') ∧ MSl w' (fun y => w.heap.size ≤ y) 177 2 a' c' [r]) ∧ Ext w w') := by
  refine calls_den (fn := Tryz.f113) (args := [_]) Tryz.func113 rfl (by simp) (fun R hR => ?_)
  refine RUN.ld hp rfl (rfl) ?_
  refine CALL.by (cloneR_in h hsc) rfl ?_
  rintro e w1 ⟨⟨a', c', rfl, h1⟩, x1⟩
  exact hR _ _ ⟨⟨a', c', rfl, h1⟩, x1⟩
theorem room_in {w : World} {S : Nat → Prop} {b ab cb pb s o ob rc k : Nat} {x n : Int} {raA : Option Addr} {own : Value} (h : Side w S (hpC b ab cb pb s o ob n raA rc own)) (hx : x = k) (hk : k < 16) (hn : 0 ≤ n - 1 ∧ n ≤ 2 ^ 30) :
    Calls PP 55 #[pt ab, i64 x] w (Pure w (i64 ((n - 1) / cpg k * cst k))) := by
  have hz := csz_bd hk
  have hp := cpg_bd hk
  have ht := cst_bd hk
  refine calls_den (fn := Tryz.f55) (args := [_, _]) Tryz.func55 rfl (by simp) (fun R hR => ?_)
  refine CALL.by (size_in hx hk w) rfl ?_
  rintro e w1 ⟨rfl, x1⟩
  have Q1 := Side.fm.ext h x1
  obtain ⟨_, ms, clock, h2, h3, h4⟩ := Q1.get 2 rfl
  have hms : ms = [] := by simpa using h4
  subst hms
  refine CEq.no (by omega) ?_
  refine RUN.ld (Q1.blk 1 rfl) rfl (rfl) ?_
  refine RUN.range (e := 173) h2 rfl (fun bi w2 n2 => ?_)
  refine LOOP.rounds 1 ?_
  refine RUN.next n2.here (n2.at h2) h3 (fun _ => ?_) (fun i m w' hi => by simp at hi)
  have Q2 := Side.fm.ext Q1 n2.ext
  refine RUN.ld (Q2.blk 1 rfl) rfl (rfl) ?_
  refine CALL.by (runs_in (Q2.blk 4 rfl) (Q2.get 5 rfl) (by simp [Value.oneCell'])) rfl ?_
  rintro e w3 ⟨⟨a3, c3, rfl, m3⟩, x3⟩
  obtain ⟨eb, eo, pre, post, rfl, r1, r2, r3, _⟩ := m3.open (by simp)
  refine LEN.mk 1 rfl ?_
  refine LOOP.rounds 2 ?_
  refine CLt.yes (by omega) ?_
  refine BD.mk (eo + 0 * 2) ⟨by omega, by omega, rfl⟩ ?_
  refine RUN.lda (vs := [i64 1, i64 (n - 1)]) r2 rfl (mapp_len m3.1 r3 (by simp) rfl) (mapp_row m3.1 r3 (by rfl) rfl) ?_
  refine RUN.alloc rfl rfl (fun b9 w4 n4 => ?_)
  refine RUN.sta (vs := [i64 1, i64 (n - 1)]) n4.here rfl (by simp) (by simp [Value.oneCell']) (fun w5 u5 => ?_)
  refine DRAW.q 9 [(0, .q), (1, .q), (2, .q), (3, .q), (6, .q), (4, .s), (5, .q), (7, .s), (8, .q)] (by kernel_rfl) (fun _ _ _ _ _ h => h) ?_
  refine RUNQ.ld u5.here rfl (rfl) ?_
  have hq0 : 0 ≤ (n - 1) / cpg k := Int.ediv_nonneg hn.1 (by omega)
  have hq1 : (n - 1) / cpg k ≤ n - 1 := Int.ediv_le_self _ hn.1
  have hm0 : 0 ≤ (n - 1) / cpg k * cst k := Int.mul_nonneg hq0 (by omega)
  have hm1 : (n - 1) / cpg k * cst k ≤ 2 ^ 30 * 64 := Int.mul_le_mul (by omega) ht.2 (by omega) (by decide)
  intro w6 x6 y6
  refine CALL.by (pages_in hx hk w6) rfl ?_
  rintro e w7 ⟨rfl, x7⟩
  refine ⟨y6.trans' x7, ?_⟩
  refine ART.quo (by omega) (by omega) (by omega) (fun r4 hr4 => ?_)
  subst hr4
  intro w8 x8 y8
  refine CALL.by (slots_in hx hk w8) rfl ?_
  rintro e w9 ⟨rfl, x9⟩
  refine ⟨y8.trans' x9, ?_⟩
  refine ART.mul (by omega) (fun r5 hr5 => ?_)
  subst hr5
  intro w10 x10
  refine ART.add (by omega) (fun r6 hr6 => ?_)
  have e6 : r6 = (n - 1) / cpg k * cst k := by omega
  subst e6
  refine ART.add (by omega) (fun r7 hr7 => ?_)
  refine CLt.no (by omega) ?_
  have x25 : Ext w2 w5 := x3.trans' (n4.ext.trans u5.ch (fun y hy hb => by have := n4.blk; omega))
  exact hR _ _ ⟨rfl, (((x1.trans' n2.ext).trans' x25).trans' (y8.trans' x9)).trans' x10⟩
theorem room_out {w : World} {ab : Nat} : Calls PP 55 #[pt ab, i64 (-1)] w (Pure w (i64 0)) := by
  refine calls_den (fn := Tryz.f55) (args := [_, _]) Tryz.func55 rfl (by simp) (fun R hR => ?_)
  refine CALL.by (size_neg (by decide) w) rfl ?_
  rintro e w1 ⟨rfl, x1⟩
  refine CEq.yes (rfl) ?_
  exact hR _ _ ⟨rfl, x1⟩
section
variable {w : World} {S : Nat → Prop} {b : Nat} {σ : MS} {n : Int}
theorem marena_in (h : MAt w S b σ) (hh : σ.hp = cHp0 n) : Calls PP 54 #[pt b] w (fun e w' => ∃ hb ab cb pb s o ob ra rc own, e = .returned (pt ab) ∧ Side w' S (hpC hb ab cb pb s o ob n ra rc own) ∧ Ext w w') := by
  obtain ⟨L, sd⟩ := h
  have h2 := sd.get 2 rfl
  rw [hh] at h2
  obtain ⟨ab, cb, pb, s, o, ob, ra, rc, own, h2⟩ := h2
  have arena : Calls PP 68 #[pt L.hp] w (Pure w (pt ab)) := by
    refine calls_den (fn := Tryz.f68) (args := [_]) Tryz.func68 rfl (by simp) (fun R hR => ?_)
    refine RUN.ld (h2.blk 0 rfl) rfl (rfl) ?_
    exact hR _ _ ⟨rfl, Ext.refl w⟩
  refine calls_den (fn := Tryz.f54) (args := [_]) Tryz.func54 rfl (by simp) (fun R hR => ?_)
  refine RUN.ld (sd.blk 0 rfl) rfl (rfl) ?_
  refine CALL.by (arena) rfl ?_
  rintro e w1 ⟨rfl, x1⟩
  exact hR _ _ ⟨L.hp, ab, cb, pb, s, o, ob, ra, rc, own, rfl, Side.fm.ext h2 x1, x1⟩
theorem mroom_in {x : Int} {k : Nat} (h : MAt w S b σ) (hh : σ.hp = cHp0 n) (hx : 1 ≤ x ∧ x ≤ 256) (hk : IsCl x k) (hn : 0 ≤ n - 1 ∧ n ≤ 2 ^ 30) : Calls PP 23 #[pt b, i64 x] w (Pure w (i64 ((n - 1) / cpg k * cst k))) := by
  refine calls_den (fn := Tryz.f23) (args := [_, _]) Tryz.func23 rfl (by simp) (fun R hR => ?_)
  refine CALL.by (marena_in h hh) rfl ?_
  rintro e w1 ⟨hb, ab, cb, pb, s, o, ob, ra, rc, own, rfl, h1, x1⟩
  refine CALL.by (of_in hx.1 hk w1) rfl ?_
  rintro e w2 ⟨rfl, x2⟩
  refine CALL.by (room_in (Side.fm.ext h1 x2) rfl hk.1 hn) rfl ?_
  rintro e w3 ⟨rfl, x3⟩
  exact hR _ _ ⟨rfl, (x1.trans' x2).trans' x3⟩
theorem mroom_out (h : MAt w S b σ) (hh : σ.hp = cHp0 n) : Calls PP 23 #[pt b, i64 (-1)] w (Pure w (i64 0)) := by
  refine calls_den (fn := Tryz.f23) (args := [_, _]) Tryz.func23 rfl (by simp) (fun R hR => ?_)
  refine CALL.by (marena_in h hh) rfl ?_
  rintro e w1 ⟨hb, ab, cb, pb, s, o, ob, ra, rc, own, rfl, h1, x1⟩
  refine CALL.by (of_out (by decide) w1) rfl ?_
  rintro e w2 ⟨rfl, x2⟩
  refine CALL.by (room_out) rfl ?_
  rintro e w3 ⟨rfl, x3⟩
  exact hR _ _ ⟨rfl, (x1.trans' x2).trans' x3⟩
end
end Go.E
end
/- The reference looks at a program. -/
set_option linter.unusedVariables false
set_option linter.unusedSimpArgs false
set_option maxRecDepth 10000
noncomputable section
namespace Go.E
open Go Go.Proofs

def kT : List (List Int) := [[0, 0, 0], [1, 6, 0], [1, 1, 6], [1, 6, 1], [1, 1, 0], [1, 0, 0], [1, 2, 0], [2, 1, 0], [3, 1, 0], [0, 0, 0], [0, 6, 6], [4, 0, 0], [4, 0, 0], [1, 1, 0], [5, 0, 0], [1, 1, 5], [6, 6, 0], [5, 0, 0]]
theorem At.cast {w : World} {b : Nat} {o o' : Obj} (h : At w b o) (e : o = o') : At w b o' := e ▸ h
def kTr (k : Nat) : List Int := kT.getD k []
set_option maxHeartbeats 1600000 in
theorem kinds_in {x : Int} {k : Nat} (hx : x = k) (hk : k < 18) (w : World) : Calls PP 130 #[i64 x] w (fun e w' => ∃ b, e = .returned (.slice (some ⟨b, 0, none⟩) 3 3) ∧ At w' b (B (ints (kTr k)) 3) ∧ Ext w w') := by
  subst hx
  refine calls_den (fn := Tryz.f130) (args := [_]) Tryz.func130 rfl (by simp) (fun R hR => ?_)
  refine RUN.buildSlice rfl rfl rfl rfl rfl rfl rfl (fun b0 w0 n0 => ?_)
  refine RUN.buildSlice rfl rfl rfl rfl rfl rfl rfl (fun b1 w1 n1 => ?_)
  refine RUN.buildSlice rfl rfl rfl rfl rfl rfl rfl (fun b2 w2 n2 => ?_)
  refine RUN.buildSlice rfl rfl rfl rfl rfl rfl rfl (fun b3 w3 n3 => ?_)
  refine RUN.buildSlice rfl rfl rfl rfl rfl rfl rfl (fun b4 w4 n4 => ?_)
  refine RUN.buildSlice rfl rfl rfl rfl rfl rfl rfl (fun b5 w5 n5 => ?_)
  refine RUN.buildSlice rfl rfl rfl rfl rfl rfl rfl (fun b6 w6 n6 => ?_)
  refine RUN.buildSlice rfl rfl rfl rfl rfl rfl rfl (fun b7 w7 n7 => ?_)
  refine RUN.buildSlice rfl rfl rfl rfl rfl rfl rfl (fun b8 w8 n8 => ?_)
  refine RUN.buildSlice rfl rfl rfl rfl rfl rfl rfl (fun b9 w9 n9 => ?_)
  refine RUN.buildSlice rfl rfl rfl rfl rfl rfl rfl (fun b10 w10 n10 => ?_)
  refine RUN.buildSlice rfl rfl rfl rfl rfl rfl rfl (fun b11 w11 n11 => ?_)
  refine RUN.buildSlice rfl rfl rfl rfl rfl rfl rfl (fun b12 w12 n12 => ?_)
  refine RUN.buildSlice rfl rfl rfl rfl rfl rfl rfl (fun b13 w13 n13 => ?_)
  refine RUN.buildSlice rfl rfl rfl rfl rfl rfl rfl (fun b14 w14 n14 => ?_)
  refine RUN.buildSlice rfl rfl rfl rfl rfl rfl rfl (fun b15 w15 n15 => ?_)
  refine RUN.buildSlice rfl rfl rfl rfl rfl rfl rfl (fun b16 w16 n16 => ?_)
  refine RUN.buildSlice rfl rfl rfl rfl rfl rfl rfl (fun b17 w17 n17 => ?_)
  refine RUN.buildSlice rfl rfl rfl rfl rfl rfl rfl (fun b18 w18 n18 => ?_)
  have a0 := (n18.at (n17.at (n16.at (n15.at (n14.at (n13.at (n12.at (n11.at (n10.at (n9.at (n8.at (n7.at (n6.at (n5.at (n4.at (n3.at (n2.at (n1.at n0.here))))))))))))))))))
  have a1 := (n18.at (n17.at (n16.at (n15.at (n14.at (n13.at (n12.at (n11.at (n10.at (n9.at (n8.at (n7.at (n6.at (n5.at (n4.at (n3.at (n2.at n1.here)))))))))))))))))
  have a2 := (n18.at (n17.at (n16.at (n15.at (n14.at (n13.at (n12.at (n11.at (n10.at (n9.at (n8.at (n7.at (n6.at (n5.at (n4.at (n3.at n2.here))))))))))))))))
  have a3 := (n18.at (n17.at (n16.at (n15.at (n14.at (n13.at (n12.at (n11.at (n10.at (n9.at (n8.at (n7.at (n6.at (n5.at (n4.at n3.here)))))))))))))))
  have a4 := (n18.at (n17.at (n16.at (n15.at (n14.at (n13.at (n12.at (n11.at (n10.at (n9.at (n8.at (n7.at (n6.at (n5.at n4.here))))))))))))))
  have a5 := (n18.at (n17.at (n16.at (n15.at (n14.at (n13.at (n12.at (n11.at (n10.at (n9.at (n8.at (n7.at (n6.at n5.here)))))))))))))
  have a6 := (n18.at (n17.at (n16.at (n15.at (n14.at (n13.at (n12.at (n11.at (n10.at (n9.at (n8.at (n7.at n6.here))))))))))))
  have a7 := (n18.at (n17.at (n16.at (n15.at (n14.at (n13.at (n12.at (n11.at (n10.at (n9.at (n8.at n7.here)))))))))))
  have a8 := (n18.at (n17.at (n16.at (n15.at (n14.at (n13.at (n12.at (n11.at (n10.at (n9.at n8.here))))))))))
  have a9 := (n18.at (n17.at (n16.at (n15.at (n14.at (n13.at (n12.at (n11.at (n10.at n9.here)))))))))
  have a10 := (n18.at (n17.at (n16.at (n15.at (n14.at (n13.at (n12.at (n11.at n10.here))))))))
  have a11 := (n18.at (n17.at (n16.at (n15.at (n14.at (n13.at (n12.at n11.here)))))))
  have a12 := (n18.at (n17.at (n16.at (n15.at (n14.at (n13.at n12.here))))))
  have a13 := (n18.at (n17.at (n16.at (n15.at (n14.at n13.here)))))
  have a14 := (n18.at (n17.at (n16.at (n15.at n14.here))))
  have a15 := (n18.at (n17.at (n16.at n15.here)))
  have a16 := (n18.at (n17.at n16.here))
  have a17 := (n18.at n17.here)
  have xx : Ext w w18 := ((((((((((((((((((n0.ext.trans' n1.ext).trans' n2.ext).trans' n3.ext).trans' n4.ext).trans' n5.ext).trans' n6.ext).trans' n7.ext).trans' n8.ext).trans' n9.ext).trans' n10.ext).trans' n11.ext).trans' n12.ext).trans' n13.ext).trans' n14.ext).trans' n15.ext).trans' n16.ext).trans' n17.ext).trans' n18.ext)
  have htab : At w18 b18 (B (([b0, b1, b2, b3, b4, b5, b6, b7, b8, b9, b10, b11, b12, b13, b14, b15, b16, b17] : List Nat).map (fun b => Value.slice (some ⟨b, 0, none⟩) 3 3)) 37) := At.cast n18.here (by kernel_rfl)
  have hrows : ∀ (j b : Nat), ([b0, b1, b2, b3, b4, b5, b6, b7, b8, b9, b10, b11, b12, b13, b14, b15, b16, b17] : List Nat)[j]? = some b → At w18 b (B (ints (kTr j)) 3) := by
    rintro (_ | _ | _ | _ | _ | _ | _ | _ | _ | _ | _ | _ | _ | _ | _ | _ | _ | _ | j) b hb
    · cases hb; exact a0
    · cases hb; exact a1
    · cases hb; exact a2
    · cases hb; exact a3
    · cases hb; exact a4
    · cases hb; exact a5
    · cases hb; exact a6
    · cases hb; exact a7
    · cases hb; exact a8
    · cases hb; exact a9
    · cases hb; exact a10
    · cases hb; exact a11
    · cases hb; exact a12
    · cases hb; exact a13
    · cases hb; exact a14
    · cases hb; exact a15
    · cases hb; exact a16
    · cases hb; exact a17
    · simp at hb
  obtain ⟨bb, hbb⟩ : ∃ bb, ([b0, b1, b2, b3, b4, b5, b6, b7, b8, b9, b10, b11, b12, b13, b14, b15, b16, b17] : List Nat)[k]? = some bb := ⟨_, List.getElem?_eq_getElem (by simpa using hk)⟩
  have hrow := hrows k bb hbb
  generalize ([b0, b1, b2, b3, b4, b5, b6, b7, b8, b9, b10, b11, b12, b13, b14, b15, b16, b17] : List Nat) = bl at htab hbb
  clear a0 a1 a2 a3 a4 a5 a6 a7 a8 a9 a10 a11 a12 a13 a14 a15 a16 a17 hrows
  refine CLt.no (by omega) ?_
  refine LEN.mk (18) (by first | rfl | simp [ints] | (simp [ints]; omega)) ?_
  refine CLt.yes (by omega) ?_
  refine BD.mk (0 + k * 1) ⟨by omega, by omega, rfl⟩ ?_
  refine RUN.ld (v := .slice (some ⟨bb, 0, none⟩) 3 3) htab rfl (by simp [hbb]) ?_
  exact hR _ _ ⟨bb, rfl, hrow, xx⟩

def limR (g n s : Int) (j : Nat) : Int := [1, 16, g, n, 32, s, 256].getD j 0
theorem rfits_in {x v g n s : Int} {k : Nat} (hx : x = k) (hk : k < 7) (w : World) : Calls PP 131 #[i64 x, i64 v, i64 g, i64 n, i64 s] w (Pure w (.bool (decide (0 ≤ v ∧ v < limR g n s k)))) := by
  subst hx
  refine calls_den (fn := Tryz.f131) (args := [_, _, _, _, _]) Tryz.func131 rfl (by simp) (fun R hR => ?_)
  by_cases h0 : v < 0
  · refine CLt.yes (by omega) ?_
    exact hR _ _ ⟨congrArg (fun b => Ending.returned (.bool b)) (decide_eq_false (by omega)).symm, Ext.refl w⟩
  · refine CLt.no (by omega) ?_
    refine RUN.buildSlice rfl rfl rfl rfl rfl rfl rfl (fun b1 w1 n1 => ?_)
    refine BD.mk (0 + k * 1) (by first | exact ⟨by decide, by decide, rfl⟩ | exact ⟨by omega, by omega, by omega⟩) ?_
    refine RUN.ld (v := i64 (limR g n s k)) n1.here rfl ?_ ?_
    · have : k = 0 ∨ k = 1 ∨ k = 2 ∨ k = 3 ∨ k = 4 ∨ k = 5 ∨ k = 6 := by omega
      rcases this with rfl | rfl | rfl | rfl | rfl | rfl | rfl <;> rfl
    by_cases h1 : v < limR g n s k
    · refine CLt.yes (h1) ?_
      exact hR _ _ ⟨congrArg (fun b => Ending.returned (.bool b)) (decide_eq_true (by omega)).symm, n1.ext⟩
    · refine CLt.no (h1) ?_
      exact hR _ _ ⟨congrArg (fun b => Ending.returned (.bool b)) (decide_eq_false (by omega)).symm, n1.ext⟩
end Go.E
end
