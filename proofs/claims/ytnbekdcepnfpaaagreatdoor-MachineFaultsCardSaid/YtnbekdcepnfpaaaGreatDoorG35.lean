/- The reference's model does an instruction. -/
import Derived.Test.YtnbekdcepnfpaaaGreatDoorG33
set_option linter.unusedVariables false
set_option linter.unusedSimpArgs false
set_option maxRecDepth 10000
noncomputable section
namespace Go.E
open Go Go.Proofs

theorem Side.one {w : World} {S : Nat → Prop} {c : Cmp} (h : c.P w S) : Side w S [c] := ⟨fun _ => 0, fun i d hi => by
  rcases i with _ | i
  · simp only [List.getElem?_cons_zero, Option.some.injEq] at hi
    subst hi
    exact c.fm.mono h fun y _ hy => ⟨hy, rfl⟩
  · simp at hi⟩
theorem xnext_in {w : World} {S : Nat → Prop} {b g : Nat} {x : XS} {z : CG} {gi : Int} {gp : List GL} {l : List In} (h : XBt w S b x gp) (hgi : gi = g) (hz : x.gs[g]? = some z) (hst : z.st ≠ 5) (hf : x.fs[z.f]? = some l) :
    Calls PP 179 #[pt b, i64 gi] w (Pure w (.tuple #[.agg (inC ((l[z.pc]?).getD ⟨0, 0, 0, 0⟩)).toArray, .bool true])) := by
  subst hgi
  obtain ⟨L, hL, hgp, sd⟩ := h
  have T := sd.triv
  obtain ⟨Lg, hLg, hLb, hSr, hrec, hstk⟩ := T.xgo hL hz
  obtain ⟨sb, so, pre, post, hga, r0, r1, r2⟩ := VS.open (T.get 3 rfl : VS w S 135 L.ga L.gc (pts (L.gl.map (·.b)))) (by rw [pts_len]; have := (List.getElem?_eq_some_iff.1 hLb).1; omega)
  have hgl : g < (pts (L.gl.map (·.b))).length := by rw [pts_len]; exact (List.getElem?_eq_some_iff.1 hLb).1
  have hgx := (List.getElem?_eq_some_iff.1 hz).1
  have hfl := (List.getElem?_eq_some_iff.1 hf).1
  obtain ⟨fb, fo, fpre, fpost, vs, xa, xc, hfa, q1, q2, q3, q4, q5⟩ := (T.get 2 rfl : FnAt w S L.fa L.fc x.fs).fn hf
  have hown := (T.get 1 rfl).2
  refine calls_den (fn := Tryz.f179) (args := [_, _]) Tryz.func179 rfl (by simp) (fun R hR => ?_)
  refine RUN.alloc rfl rfl (fun b4 w1 n1 => ?_)
  replace hrec := n1.at hrec
  replace hown := n1.at hown
  replace r1 := n1.at r1
  replace q1 := n1.at q1
  refine CLt.no (by omega) ?_
  refine RUN.ld hown rfl (rfl) ?_
  refine LEN.mk (x.gs.length : Int) (by simp [pts, hL.gl]) ?_
  refine CLt.yes (by omega) ?_
  refine RUN.ld hown rfl ((xC_gs hga)) ?_
  refine BD.mk (so + g * 1) (by first | exact ⟨by decide, by decide, rfl⟩ | exact ⟨by omega, by omega, by omega⟩) ?_
  refine RUN.ld r1 rfl ((app_get r2 (pts_get hLb) rfl)) ?_
  refine RUN.ld hrec rfl (show _ = some (i64 z.st) from rfl) ?_
  refine CEq.no (hst) ?_
  refine RUN.ld hown rfl ((xC_gs hga)) ?_
  refine BD.mk (so + g * 1) (by first | exact ⟨by decide, by decide, rfl⟩ | exact ⟨by omega, by omega, by omega⟩) ?_
  refine RUN.ld r1 rfl ((app_get r2 (pts_get hLb) rfl)) ?_
  refine DRAW.q 16 (qs 16 0) (by kernel_rfl) (fun _ _ _ _ _ h => h) ?_
  refine RUNQ.ld hrec rfl (show _ = some (i64 z.pc) from rfl) ?_
  refine RUNQ.ld hown rfl ((xC_fs hfa)) ?_
  refine RUNQ.ld hrec rfl (show _ = some (i64 z.f) from rfl) ?_
  refine BD.mk (fo + z.f * 1) ⟨by omega, by omega, rfl⟩ ?_
  refine RUNQ.ld (v := .slice xa l.length xc) q1 rfl (app_get q2 q4 rfl) ?_
  refine LEN.mk (l.length : Int) rfl ?_
  intro w2 x2
  by_cases hpc : z.pc < l.length
  · refine CLt.yes (by omega) ?_
    obtain ⟨ib, io, ipre, ipost, rfl, i1, i2, i3, i4⟩ := q5.open (by simp; omega)
    replace i2 := x2.at (n1.at i2)
    have hli : l[z.pc]? = some l[z.pc] := List.getElem?_eq_getElem hpc
    rw [hli] at hR
    generalize l[z.pc] = i at hli hR
    refine DRAW.q 15 (qs 15 0) (by kernel_rfl) (fun _ _ _ _ _ h => h) ?_
    refine RUNQ.ld (x2.at hown) rfl ((xC_fs hfa)) ?_
    refine RUNQ.ld (x2.at hrec) rfl (show _ = some (i64 z.f) from rfl) ?_
    refine BD.mk (fo + z.f * 1) ⟨by omega, by omega, rfl⟩ ?_
    refine RUNQ.ld (v := .slice (some ⟨ib, io, none⟩) l.length xc) (x2.at q1) rfl (app_get q2 q4 rfl) ?_
    refine RUNQ.ld (x2.at hrec) rfl (show _ = some (i64 z.pc) from rfl) ?_
    intro w3 x3
    refine BD.mk (io + z.pc * 4) ⟨by omega, by omega, rfl⟩ ?_
    refine RUN.lda (vs := inC i) (x3.at i2) rfl (mapp_len q5.1 i3 (by simpa using hpc) rfl) (mapp_row q5.1 i3 (by simp [hli]) rfl) ?_
    have h4 := x3.at (x2.at n1.here)
    refine RUN.sta (vs := inC i) h4 rfl (by simp [inC]) (by simp [inC, Value.oneCell']) (fun w4 u4 => ?_)
    refine RUN.lda (vs := inC i) u4.here rfl (Nat.le_of_ble_eq_true rfl) rfl ?_
    exact ⟨rfl, hR _ _ ⟨rfl, ((n1.ext.trans' x2).trans' x3).trans u4.ch (fun y hy hb => by have := n1.blk; omega)⟩⟩
  · refine CLt.no (by omega) ?_
    rw [List.getElem?_eq_none (by omega)] at hR
    have h4 := x2.at n1.here
    refine RUN.sta (vs := inC ⟨0, 0, 0, 0⟩) h4 rfl (by simp [inC]) (by simp [inC, Value.oneCell']) (fun w4 u4 => ?_)
    refine RUN.lda (vs := inC ⟨0, 0, 0, 0⟩) u4.here rfl (Nat.le_of_ble_eq_true rfl) rfl ?_
    exact ⟨rfl, hR _ _ ⟨rfl, (n1.ext.trans' x2).trans u4.ch (fun y hy hb => by have := n1.blk; omega)⟩⟩
theorem gp_map {gp gp' : List GL} {g p : Nat} (h : ∀ (n : Nat) (p : GL), gp[n]? = some p → gp'[n]? = some p) (hp : (gp.map (fun (l : GL) => l.b))[g]? = some p) : (gp'.map (fun (l : GL) => l.b))[g]? = some p := by
  rw [List.getElem?_map] at hp ⊢
  obtain ⟨l, h1, h2⟩ := Option.map_eq_some_iff.1 hp
  rw [h g l h1]
  simp [h2]
/-- What an instruction's two parts come to. -/
def DoH (b g : Nat) (i : In) (x1 : XS) (cm0 : Cmt) (x' : XS) (cm' : Cmt) : Prop := ∀ (w : World) (S : Nat → Prop) (cb : Nat) (gp : List GL), YAt w S b x1 cb cm0 gp →
  Calls PP 180 #[pt b, i64 g, .agg (inC i).toArray, pt cb] w (PlainPost w S b cb x' cm' gp true) ∨
  (Calls PP 180 #[pt b, i64 g, .agg (inC i).toArray, pt cb] w (PlainPost w S b cb x1 cm0 gp false) ∧
    ∀ (w : World) (S : Nat → Prop), YAt w S b x1 cb cm0 gp → Calls PP 181 #[pt b, i64 g, .agg (inC i).toArray, pt cb] w (OtherPost w S b cb x' cm' gp))
def fltC (cm : Cmt) : Cmt := if cm.fault = true then { cm with value := 0 } else cm
def fltX (x : XS) (g : Nat) (z : CG) (cm : Cmt) : XS := if cm.fault = true then { x with gs := x.gs.set g { z with st := 5 } } else x
theorem xdo_gen {w : World} {S : Nat → Prop} {b g : Nat} {x x' : XS} {z z' : CG} {gi : Int} {gp : List GL} {l : List In} {i : In} {cm' : Cmt} (h : XBt w S b x gp) (hgi : gi = g) (hz : x.gs[g]? = some z) (hst : z.st = 1) (hf : x.fs[z.f]? = some l)
    (hpc : z.pc ≤ 2 ^ 60) (hi : (l[z.pc]?).getD ⟨0, 0, 0, 0⟩ = i) (H : DoH b g i { x with gs := x.gs.set g z.mv } ⟨g, z.f, z.pc, i.op, 0, false⟩ x' cm') (hft : cm'.fault = true → x'.gs[g]? = some z') :
    Calls PP 118 #[pt b, i64 gi] w (fun e w' => e = .returned (.tuple #[.agg (cmC (fltC cm')).toArray, i64 0]) ∧ XAt w' (Nw w S) b (fltX x' g z' cm') ∧ Ch S w w') := by
  subst hgi
  refine calls_sem (fn := Tryz.f118) (args := [_, _]) Tryz.func118 rfl (by simp) (fun R hR => ?_)
  refine SEM.cut (X := Nat × Nat × Nat × List GL) 7 (fun t => [(4, pt t.1), (6, pt t.2.1), (9, pt t.2.2.1)])
    (fun t w' => (t.2.2.2.map (fun (l : GL) => l.b))[g]? = some t.2.1 ∧ ∃ S', Rn w S w' S' [cYa b x' t.2.2.1 cm' t.2.2.2, cAt t.1 (B [i64 0, i64 0, i64 0, i64 0, i64 0, .bool false] 53)]) rfl ?_ ?_
  · obtain ⟨S0, s0, Q0⟩ := Rn.start (Side.one (c := cXb b x gp) h)
    refine RUN.alloc rfl rfl (fun b4 w1 n1 => ?_)
    obtain ⟨S1, Q1, _⟩ := Q0.add1 n1
    have hX1 : XBt w1 S1 b x gp := Q1.get 0 rfl
    obtain ⟨p, hp, hsb⟩ : ∃ p, (gp.map (fun (l : GL) => l.b))[g]? = some p ∧ ∃ L : XL, XLok x L ∧ L.gl = gp ∧ Side w1 S1 (cTr :: xP b x L) ∧ ∃ Lg, L.gl[g]? = some Lg ∧ Lg.b = p ∧ At w1 p (B (cgC Lg z) 134) := by
      obtain ⟨L, hL, hgp, sd⟩ := id hX1
      obtain ⟨Lg, hLg, hLb, hSr, hrec, hstk⟩ := sd.triv.xgo hL hz
      exact ⟨Lg.b, by rw [← hgp]; exact hLb, L, hL, hgp, sd.triv, Lg, hLg, rfl, hrec⟩
    obtain ⟨L, hL, hgp, T, Lg, hLg, hLp, hrec⟩ := hsb
    have hLb : (L.gl.map (·.b))[g]? = some p := by rw [hgp]; exact hp
    obtain ⟨sb, so, pre, post, hga, r0, r1, r2⟩ := VS.open (T.get 3 rfl : VS w1 S1 135 L.ga L.gc (pts (L.gl.map (·.b)))) (by rw [pts_len]; have := (List.getElem?_eq_some_iff.1 hLb).1; omega)
    have hgl : g < (pts (L.gl.map (·.b))).length := by rw [pts_len]; exact (List.getElem?_eq_some_iff.1 hLb).1
    have hgx := (List.getElem?_eq_some_iff.1 hz).1
    have hown := (T.get 1 rfl).2
    refine CLt.no (by omega) ?_
    refine RUN.ld hown rfl (rfl) ?_
    refine LEN.mk (x.gs.length : Int) (by simp [pts, hL.gl]) ?_
    refine CLt.yes (by omega) ?_
    refine RUN.ld hown rfl ((xC_gs hga)) ?_
    refine BD.mk (so + g * 1) (by first | exact ⟨by decide, by decide, rfl⟩ | exact ⟨by omega, by omega, by omega⟩) ?_
    refine RUN.ld r1 rfl ((app_get r2 (pts_get hLb) rfl)) ?_
    refine RUN.ld hrec rfl (show _ = some (i64 z.st) from rfl) ?_
    refine CEq.yes (hst) ?_
    refine CALL.by (xnext_in hX1 rfl hz (by omega) hf) rfl ?_
    rw [hi]
    rintro e w2 ⟨rfl, x2⟩
    refine RUN.alloc rfl rfl (fun b7 w3 n3 => ?_)
    obtain ⟨S3, Q3, _⟩ := (Q1.ext x2).add1 n3
    refine RUN.sta (vs := inC i) n3.here rfl (by simp [inC]) (by simp [inC, Value.oneCell']) (fun w4 u4 => ?_)
    have Q4 := Q3.st 2 rfl u4
    replace Q4 : Rn w S w4 S3 [cXb b x gp, cAt b4 (B [i64 0, i64 0, i64 0, i64 0, i64 0, .bool false] 53), cAt b7 (B (inC i) 33)] := Q4
    have x14 : Ext w1 w4 := (x2.trans' n3.ext).trans u4.ch (fun y hy hb => by have := n3.blk; have := x2.size; omega)
    have hrec4 := x14.at hrec
    refine DRAW.q 13 [(0, .q), (1, .q), (2, .q), (3, .q), (4, .q), (5, .q), (6, .q), (7, .q), (8, .q), (9, .q), (10, .q), (11, .q), (12, .s)] (by kernel_rfl) (fun _ _ _ _ _ h => h) ?_
    refine RUNQ.ld hrec4 rfl (show _ = some (i64 z.f) from rfl) ?_
    refine RUNQ.ld hrec4 rfl (show _ = some (i64 z.pc) from rfl) ?_
    refine RUNQ.ld (Q4.blk 2 rfl) rfl (show _ = some (i64 i.op) from rfl) ?_
    intro w5 x5 y5
    refine RUN.alloc rfl rfl (fun b9 w6 n6 => ?_)
    refine ⟨y5.trans' n6.ext, ?_⟩
    intro w7 x7
    refine RUN.sta (vs := cmC ⟨g, z.f, z.pc, i.op, 0, false⟩) (x7.at n6.here) rfl (by simp [cmC]) (by simp [cmC, Value.oneCell']) (fun w8 u8 => ?_)
    have Q5 := Q4.ext x5
    have hb6 := n6.blk
    have x58 : Ext w5 w8 := (n6.ext.trans' x7).trans u8.ch (fun y hy hb => by omega)
    obtain ⟨Si, si, hn, hP, cl⟩ := Q5.stepN 0 rfl
    obtain ⟨S8, Q8⟩ := cl (cYa b x b9 ⟨g, z.f, z.pc, i.op, 0, false⟩ gp) (Si' := fun y => Si y ∨ y = b9) x58.ch (by
      rintro y (hy | rfl)
      · exact .inl hy
      · exact .inr (by omega)) (YAt.of (XBt.fm.ext hP x58) u8.here (fun hh => by have := Q5.bd _ (si _ hh); omega))
    clear Q0 Q1 Q3 Q4 Q5 cl hP
    -- the place goes on
    obtain ⟨Sj, sj, hn2, hP, cl⟩ := Q8.stepN 0 rfl
    obtain ⟨L8, hL8, hg8, sd8⟩ := hP
    obtain ⟨T8, t8, R8⟩ := Rn.start sd8
    obtain ⟨Lg8, hLg8, hLb8, hSr8, hrec8, hstk8⟩ := R8.sd.xgo hL8 hz
    have e8 : Lg8.b = p := by
      rw [hg8, hp] at hLb8
      exact (Option.some.inj hLb8).symm
    rw [e8] at hrec8
    refine RUN.ld hrec8 rfl (show _ = some (i64 z.pc) from rfl) ?_
    refine ART.add (by omega) (fun r hr => ?_)
    have er : r = ((z.pc + 1 : Nat) : Int) := by omega
    subst er
    refine RUN.sti hrec8 rfl (by simp [cgC]) (fun w9 u9 => ?_)
    have R9 := R8.xrec hL8 hLg8 hz (z' := z.mv) rfl (by rw [e8]; exact u9)
    obtain ⟨S9, Q9⟩ := cl (cYa b { x with gs := x.gs.set g z.mv } b9 ⟨g, z.f, z.pc, i.op, 0, false⟩ gp) R9.cc (Nw.own _ _) ⟨L8, ⟨by simpa using hL8.gl, hL8.ws, hL8.os, hL8.wl⟩, hg8, R9.fin⟩
    clear cl Q8
    refine RUN.lda (vs := inC i) (Q9.blk 2 rfl) rfl (Nat.le_of_ble_eq_true rfl) rfl ?_
    obtain ⟨Sk, sk, hn3, hP, cl⟩ := Q9.stepN 0 rfl
    rcases H _ _ _ _ hP with h1 | ⟨h1, h2⟩
    · refine CALL.by (h1) rfl ?_
      rintro e w10 ⟨rfl, y10, c10⟩
      obtain ⟨S10, Q10⟩ := cl (cYa b x' b9 cm' gp) c10 (Nw.own _ _) y10
      exact ⟨rfl, (b4, p, b9, gp), ⟨rfl, rfl, rfl, trivial⟩, hp, S10, Q10.perm [0, 1] rfl (by decide) (by rintro (_ | _ | i) c hc <;> first | exact hc | (simp at hc))⟩
    · refine CALL.by (h1) rfl ?_
      rintro e w10 ⟨rfl, y10, c10⟩
      obtain ⟨S10, Q10⟩ := cl (cYa b { x with gs := x.gs.set g z.mv } b9 ⟨g, z.f, z.pc, i.op, 0, false⟩ gp) c10 (Nw.own _ _) y10
      refine RUN.lda (vs := inC i) (Q10.blk 2 rfl) rfl (Nat.le_of_ble_eq_true rfl) rfl ?_
      obtain ⟨Sl, sl, hn4, hP2, cl2⟩ := Q10.stepN 0 rfl
      refine CALL.by (h2 _ _ hP2) rfl ?_
      rintro e w11 ⟨rfl, ⟨gp', hgp', y11⟩, c11⟩
      obtain ⟨S11, Q11⟩ := cl2 (cYa b x' b9 cm' gp') c11 (Nw.own _ _) y11
      exact ⟨rfl, (b4, p, b9, gp'), ⟨rfl, rfl, rfl, trivial⟩, gp_map hgp' hp, S11, Q11.perm [0, 1] rfl (by decide) (by rintro (_ | _ | i) c hc <;> first | exact hc | (simp at hc))⟩
  rintro ⟨b4, p, b9, gp'⟩ w1 ⟨hp, S1, Q1⟩ j1
  simp only at hp Q1
  refine SEM.of ?_
  unfold fltC fltX at hR
  have hC := YAt.c (Q1.get 0 rfl : YAt w1 S1 b x' b9 cm' gp')
  by_cases hcf : cm'.fault = true
  · rw [if_pos hcf, if_pos hcf] at hR
    refine RUN.ld (v := .bool true) hC rfl (by simp [cmC, hcf]) ?_
    obtain ⟨Sj, sj, hn2, hP, cl⟩ := Q1.stepN 0 rfl
    obtain ⟨L8, hL8, hg8, sd8⟩ := hP
    obtain ⟨T8, t8, R8⟩ := Rn.start sd8
    refine RUN.sti (R8.blk 0 rfl) rfl (by simp [cmC]) (fun w2 u2 => ?_)
    have R2 := R8.st 0 rfl u2
    obtain ⟨Lg8, hLg8, hLb8, hSr8, hrec8, hstk8⟩ := R2.sd.xgo hL8 (hft hcf)
    have e8 : Lg8.b = p := by
      rw [hg8, hp] at hLb8
      exact (Option.some.inj hLb8).symm
    rw [e8] at hrec8
    refine RUN.sti hrec8 rfl (by simp [cgC]) (fun w3 u3 => ?_)
    have R3 := R2.xrec hL8 hLg8 (hft hcf) (z' := { z' with st := 5 }) rfl (by rw [e8]; exact u3)
    obtain ⟨S3, Q3⟩ := cl (cYa b { x' with gs := x'.gs.set g { z' with st := 5 } } b9 { cm' with value := 0 } gp') R3.cc (Nw.own _ _) ⟨L8, ⟨by simpa using hL8.gl, hL8.ws, hL8.os, hL8.wl⟩, hg8, R3.fin⟩
    have hC3 := YAt.c (Q3.get 0 rfl : YAt w3 S3 b _ b9 { cm' with value := 0 } gp')
    refine RUN.lda (vs := cmC { cm' with value := 0 }) hC3 rfl (Nat.le_of_ble_eq_true rfl) rfl ?_
    refine RUN.sta (vs := cmC { cm' with value := 0 }) (Q3.blk 1 rfl) rfl (by simp [cmC]) (by simp [cmC, Value.oneCell']) (fun w4 u4 => ?_)
    have Q4 := Q3.st 1 rfl u4
    refine RUN.lda (vs := cmC { cm' with value := 0 }) u4.here rfl (Nat.le_of_ble_eq_true rfl) rfl ?_
    exact ⟨rfl, hR _ _ ⟨rfl, ⟨gp', YAt.x (Q4.fin.get 0 rfl : YAt w4 _ b _ b9 { cm' with value := 0 } gp')⟩, Q4.cc⟩⟩
  · rw [if_neg hcf, if_neg hcf] at hR
    refine RUN.ld (v := .bool false) hC rfl (by simp [cmC, hcf]) ?_
    refine RUN.lda (vs := cmC cm') hC rfl (Nat.le_of_ble_eq_true rfl) rfl ?_
    refine RUN.sta (vs := cmC cm') (Q1.blk 1 rfl) rfl (by simp [cmC]) (by simp [cmC, Value.oneCell']) (fun w4 u4 => ?_)
    have Q4 := Q1.st 1 rfl u4
    refine RUN.lda (vs := cmC cm') u4.here rfl (Nat.le_of_ble_eq_true rfl) rfl ?_
    exact ⟨rfl, hR _ _ ⟨rfl, ⟨gp', YAt.x (Q4.fin.get 0 rfl : YAt w4 _ b x' b9 cm' gp')⟩, Q4.cc⟩⟩
end Go.E
end
/- The model's instruction follows the core's step; time goes on. -/
set_option linter.unusedVariables false
set_option linter.unusedSimpArgs false
set_option maxRecDepth 10000
noncomputable section
namespace Go.E
open Go Go.Proofs

theorem mod_set {α : Type} {l : List α} {k : Nat} {f : α → α} {v : α} (h : l[k]? = some v) : l.modify k f = l.set k (f v) := by
  refine List.ext_getElem? fun j => ?_
  rw [List.getElem?_modify]
  by_cases hj : k = j
  · subst hj
    rw [List.getElem?_set_self (List.getElem?_eq_some_iff.1 h).1, h]
    simp
  · rw [List.getElem?_set_ne hj]
    simp [hj]
/-- The core, its time aside. -/
def coreZ (x : XS) : Core := { coreX x with clock := 0 }
/-- What the model is while no object is there and nobody sleeps. -/
structure XOk (x : XS) : Prop where
  ob : x.objs = []
  tm : x.tim = []
  gs : ∀ y ∈ x.gs, y.stack.length = 16 ∧ (y.f < x.fs.length ∧ y.pc ≤ 2 ^ 60) ∧ y.count < 65536
  gl : x.gs.length ≤ 1024
  wl : x.waits.length = 32
  wt : ∀ l ∈ x.waits, l.length ≤ 2 ^ 30 ∧ ∀ v ∈ l, ∃ n : Nat, v = n ∧ ∃ y, x.gs[n]? = some y ∧ y.st = 3
theorem xwaits_get {x : XS} (h : XOk x) {a : Nat} (ha : a < 32) : x.waits.getD a [] ∈ x.waits := by
  rw [List.getD_eq_getElem?_getD, List.getElem?_eq_getElem (by rw [h.wl]; exact ha)]
  exact List.getElem_mem _
section
variable {w : World} {S : Nat → Prop} {b g : Nat} {x : XS} {z : CG} {gi : Int} {gp : List Nat} {i : In}
theorem xdo_in (h : XAt w S b x) (hx : XOk x) (hgi : gi = g) (hz : x.gs[g]? = some z) (hst : z.st = 1) (hp : plainI x.fs.length (instAt x.fs z.f z.pc)) :
    Calls PP 118 #[pt b, i64 gi] w (fun e w' => ∃ x', e = .returned (.tuple #[.agg (cmC (cex (coreZ x) g z (instAt x.fs z.f z.pc)).2).toArray, i64 0]) ∧ XAt w' (Nw w S) b x' ∧ x'.fs = x.fs ∧ x'.objs = [] ∧ x'.tim = [] ∧ x'.clock = x.clock ∧
      coreZ x' = (cex (coreZ x) g z (instAt x.fs z.f z.pc)).1 ∧ Ch S w w') := by
  obtain ⟨gp, h⟩ := h
  obtain ⟨hzs, ⟨hzf, hzp⟩, hzc⟩ := hx.gs z (List.mem_of_getElem? hz)
  have hf : x.fs[z.f]? = some x.fs[z.f] := List.getElem?_eq_getElem hzf
  generalize x.fs[z.f] = l at hf
  have hie := inst_eq (pc := z.pc) hf
  rw [hie] at hp ⊢
  generalize hi : (l[z.pc]?).getD ⟨0, 0, 0, 0⟩ = i at hp
  have hz1 : ({ x with gs := x.gs.set g z.mv } : XS).gs[g]? = some z.mv := set_hit hz
  have hzs1 : z.mv.stack.length = 16 := hzs
  -- how each ends
  have fin : ∀ {x' : XS} {cm' : Cmt} {z' : CG}, DoH b g i { x with gs := x.gs.set g z.mv } ⟨g, z.f, z.pc, i.op, 0, false⟩ x' cm' → (cm'.fault = true → x'.gs[g]? = some z') → x'.fs = x.fs → x'.objs = [] → x'.tim = [] → x'.clock = x.clock →
      (coreZ (fltX x' g z' cm'), fltC cm') = cex (coreZ x) g z i →
      Calls PP 118 #[pt b, i64 gi] w (fun e w' => ∃ x', e = .returned (.tuple #[.agg (cmC (cex (coreZ x) g z i).2).toArray, i64 0]) ∧ XAt w' (Nw w S) b x' ∧ x'.fs = x.fs ∧ x'.objs = [] ∧ x'.tim = [] ∧ x'.clock = x.clock ∧
      coreZ x' = (cex (coreZ x) g z i).1 ∧ Ch S w w') := by
    intro x' cm' z' H hft h1 h2 h3 h4 hc
    refine (xdo_gen h hgi hz hst hf hzp hi H hft).mono ?_
    rintro e w' ⟨rfl, q, c⟩
    rw [← hc]
    refine ⟨_, rfl, q, ?_, ?_, ?_, ?_, rfl, c⟩ <;> (unfold fltX; split <;> assumption)
  rcases hp with ho | ho | ⟨ho, ha⟩ | ⟨ho, ha, hb, hc⟩ | ⟨ho, ha, hb⟩ | ⟨ho, ha⟩ | ⟨ho, ha, hb⟩ | ⟨ho, ha⟩ | ⟨ho, ha⟩ | ⟨ho, ha⟩ | ⟨ho, ha, hb⟩
  · refine fin (z' := z) (fun w S cb gp Y => .inr ⟨plain_no Y rfl hz1 hzs1 (by omega), fun w S Y => other0 Y rfl hz1 ho⟩) (fun hh => by cases hh) rfl hx.ob hx.tm rfl ?_
    simp [cex, ho, cOk, coreZ, coreX, CG.mv, fltX, fltC]
  · refine fin (z' := z) (fun w S cb gp Y => .inr ⟨plain_no Y rfl hz1 hzs1 (by omega), fun w S Y => other9 Y rfl hz1 ho⟩) (fun hh => by cases hh) rfl hx.ob hx.tm rfl ?_
    simp [cex, ho, cOk, coreZ, coreX, CG.mv, fltX, fltC]
  · refine fin (z' := z) (fun w S cb gp Y => .inl (plain17 Y rfl hz1 hzs1 ho hzc)) (fun hh => by cases hh) rfl hx.ob hx.tm rfl ?_
    by_cases hcz : 0 < z.count <;> simp [cex, ho, cOk, coreZ, coreX, CG.mv, fltX, fltC, hcz]
  · have hm : memO x.objs = fun _ => none := by rw [hx.ob]; exact memO_nil
    refine fin (z' := z.mv) (fun w S cb gp Y => .inl (plain2_bad Y rfl hz1 hzs1 ho hb (by show (memO x.objs _).bind _ = none; rw [hm]; rfl) (by show ∀ l ∈ x.objs, _; rw [hx.ob]; simp) (by show x.objs.length ≤ _; rw [hx.ob]; decide))) (fun _ => hz1) rfl hx.ob hx.tm rfl ?_
    simp [cex, ho, cFt, coreZ, coreX, CG.mv, fltX, fltC, hm]
  · refine fin (z' := z) (fun w S cb gp Y => .inl (plain4 Y rfl hz1 hzs1 ho ha hb)) (fun hh => by cases hh) rfl hx.ob hx.tm rfl ?_
    simp [cex, ho, cOk, coreZ, coreX, CG.mv, fltX, fltC]
  · refine fin (z' := z) (fun w S cb gp Y => .inl (plain5 Y rfl hz1 hzs1 ho ha)) (fun hh => by cases hh) rfl hx.ob hx.tm rfl ?_
    simp [cex, ho, cOk, coreZ, coreX, CG.mv, fltX, fltC]
  · by_cases hl : x.gs.length < 1024
    · refine fin (z' := z) (fun w S cb gp Y => .inr ⟨plain_no Y rfl hz1 hzs1 (by omega), fun w S Y => other8 Y rfl hz1 hzs1 ho hb (by simpa using hl)⟩) (fun hh => by cases hh) rfl hx.ob hx.tm rfl ?_
      simp [cex, ho, cOk, coreZ, coreX, CG.mv, fltX, fltC, hl]
    · refine fin (z' := z.mv) (fun w S cb gp Y => .inr ⟨plain_no Y rfl hz1 hzs1 (by omega), fun w S Y => other8_bad Y rfl hz1 ho (by simp; omega)⟩) (fun _ => hz1) rfl hx.ob hx.tm rfl ?_
      simp [cex, ho, cFt, coreZ, coreX, CG.mv, fltX, fltC, hl]
  · refine fin (z' := z) (fun w S cb gp Y => .inr ⟨plain_no Y rfl hz1 hzs1 (by omega), fun w S Y => other11 Y rfl hz1 ho ha (fun l hl => (hx.wt l hl).1) (fun l hl hh => ?_)⟩) (fun hh => by cases hh) rfl hx.ob hx.tm rfl ?_
    · obtain ⟨n, h1, y, h2, h3⟩ := (hx.wt l hl).2 _ hh
      have : n = g := by omega
      subst this
      rw [hz] at h2
      cases h2
      omega
    · simp [cex, ho, cOk, coreZ, coreX, CG.mv, fltX, fltC]
  · have hm := xwaits_get hx ha
    cases hn : x.waits.getD i.a [] with
    | nil =>
      refine fin (z' := z) (fun w S cb gp Y => .inr ⟨plain_no Y rfl hz1 hzs1 (by omega), fun w S Y => other12_none Y rfl hz1 ho ha hn⟩) (fun hh => by cases hh) rfl hx.ob hx.tm rfl ?_
      simp only [cex, ho, cOk, coreZ, coreX, CG.mv, fltX, fltC, hn]
      simp
    | cons k t =>
      obtain ⟨n, rfl, y, hy1, hy2⟩ := (hx.wt _ hm).2 k (by rw [hn]; simp)
      have hng : n ≠ g := by rintro rfl; rw [hz] at hy1; cases hy1; omega
      have hk : ({ x with gs := x.gs.set g z.mv } : XS).gs[n]? = some y := by
        show (x.gs.set g z.mv)[n]? = _
        rw [List.getElem?_set_ne (Ne.symm hng)]; exact hy1
      refine fin (z' := z) (fun w S cb gp Y => .inr ⟨plain_no Y rfl hz1 hzs1 (by omega), fun w S Y => other12 Y rfl hz1 ho ha hn hk⟩) (fun hh => by cases hh) rfl hx.ob hx.tm rfl ?_
      have hk' : (x.gs.set g z.mv)[n]? = some y := hk
      simp only [cex, ho, coreZ, coreX, fltX, fltC, hn]
      simp [mod_set hk']
  · refine fin (z' := z) (fun w S cb gp Y => .inl (plain14 Y rfl hz1 hzs1 ho)) (fun hh => by cases hh) rfl hx.ob hx.tm rfl ?_
    simp [cex, ho, cOk, coreZ, coreX, CG.mv, fltX, fltC]
  · refine fin (z' := z) (fun w S cb gp Y => .inl (plain16 Y rfl hz1 hzs1 ho ha hb)) (fun hh => by cases hh) rfl hx.ob hx.tm rfl ?_
    simp [cex, ho, cOk, coreZ, coreX, CG.mv, fltX, fltC]
theorem xC_clk {L : XL} (hL : XLok x L) : (xC x L)[38]? = some (i64 x.clock) := by
  have h : L.ws.length = 32 := by rw [← hL.wl, ← hL.ws]; simp
  unfold xC
  rw [List.getElem?_append_right (by simp [h])]
  simp [h]
theorem xC_setclk {L : XL} (hL : XLok x L) (c : Int) : (xC x L).set 38 (i64 c) = xC { x with clock := c } L := by
  have h : L.ws.length = 32 := by rw [← hL.wl, ← hL.ws]; simp
  unfold xC
  rw [List.set_append_right _ _ (by simp [h])]
  simp [h]
theorem xdue_none {L : XL} {A : Cmp} {c : Int} (Q : Side w S (A :: xP b x L)) (ht : x.tim = []) : Calls PP 117 #[.pointer (some ⟨b, 5, none⟩), i64 c] w (Pure w nils) := by
  have hown := (Q.get 1 rfl).2
  refine calls_den (fn := Tryz.f117) (args := [_, _]) Tryz.func117 rfl (by simp) (fun R hR => ?_)
  refine LOOP.rounds 1 ?_
  refine RUN.ld hown rfl (rfl) ?_
  refine LEN.mk 0 (by rw [ht]; rfl) ?_
  refine CLt.no (by omega) ?_
  exact hR _ _ ⟨rfl, Ext.refl w⟩
theorem xtick_none {n : Int} (h : XAt w S b x) (ht : x.tim = []) (hc : 0 ≤ x.clock ∧ x.clock ≤ 2 ^ 60) (hn : 0 ≤ n ∧ n ≤ 2 ^ 60) :
    Calls PP 61 #[pt b, i64 n] w (fun e w' => e = .returned nils ∧ XAt w' (Nw w S) b { x with clock := x.clock + n } ∧ Ch S w w') := by
  obtain ⟨gp, L, hL, hgp, sd⟩ := h
  obtain ⟨S1, s1, Q⟩ := Rn.start sd.triv
  refine calls_den (fn := Tryz.f61) (args := [_, _]) Tryz.func61 rfl (by simp) (fun R hR => ?_)
  refine RUN.ld (Q.blk 1 rfl) rfl ((xC_clk hL)) ?_
  refine RUN.max2 (fun m1 g1 => ?_)
  refine ART.add (by omega) (fun r hr => ?_)
  have er : r = x.clock + n := by omega
  subst er
  refine RUN.sti (Q.blk 1 rfl) rfl (by rw [xC_wlen hL]; decide) (fun w1 u1 => ?_)
  have Q1 := Q.st 1 rfl u1
  rw [xC_setclk hL] at Q1
  have hL1 : XLok { x with clock := x.clock + n } L := ⟨hL.gl, hL.ws, hL.os, hL.wl⟩
  replace Q1 : Rn w S w1 S1 (cTr :: xP b { x with clock := x.clock + n } L) := Q1
  refine DRAW.q 7 (qs 7 0) (by kernel_rfl) (fun _ _ _ _ _ h => h) ?_
  refine RUNQ.ld (Q1.blk 1 rfl) rfl ((xC_clk hL1)) ?_
  intro w2 x2
  refine CALL.by (xdue_none (Q1.ext x2).sd ht) rfl ?_
  rintro e w3 ⟨rfl, x3⟩
  refine LOOP.rounds 1 ?_
  refine LEN.mk 0 rfl ?_
  refine CLt.no (by omega) ?_
  have Q3 := (Q1.ext x2).ext x3
  refine hR _ _ ⟨rfl, ⟨gp, L, hL1, hgp, ?_⟩, Q3.cc⟩
  obtain ⟨col, hs⟩ := Q3.fin
  exact ⟨fun y => col y - 1, fun i c hi => c.fm.mono (hs (i + 1) c (by simpa using hi)) fun y _ hy => ⟨hy.1, by show col y - 1 = i; omega⟩⟩
end
end Go.E
end
