/- The reference's model: what turns stacks, globals, objects and places alone. -/
import Derived.Test.YtnbekdcepnfpaaaGreatDoorG30
set_option linter.unusedVariables false
set_option linter.unusedSimpArgs false
set_option maxRecDepth 10000
noncomputable section
namespace Go.E
open Go Go.Proofs

section
variable {w : World} {S : Nat → Prop} {b cb g : Nat} {x : XS} {z : CG} {i : In} {gi : Int} {cm : Cmt} {gp : List GL}
/-- How it ends. -/
def PlainPost (w : World) (S : Nat → Prop) (b cb : Nat) (x' : XS) (cm' : Cmt) (gp : List GL) (r : Bool) : Ending → World → Prop := fun e w' => e = .returned (.bool r) ∧ YAt w' (Nw w S) b x' cb cm' gp ∧ Ch S w w'
theorem plain4 (Y : YAt w S b x cb cm gp) (hgi : gi = g) (hz : x.gs[g]? = some z) (hs : z.stack.length = 16) (ho : i.op = 4) (ha : i.a < 16) (hb : i.b < 16) :
    Calls PP 180 #[pt b, i64 gi, .agg (inC i).toArray, pt cb] w (PlainPost w S b cb { x with gs := x.gs.set g { z with stack := z.stack.set i.a (z.stack.getD i.b 0) } } cm gp true) := by
  subst hgi
  obtain ⟨L, hL, hgp, sd⟩ := Y
  obtain ⟨S1, s1, Q⟩ := Rn.start sd
  obtain ⟨Lg, hLg, hLb, hSr, hrec, hstk⟩ := Q.sd.xgo hL hz
  obtain ⟨kb, ko, kpre, kpost, hka, hkS, hk1, hk2⟩ := hstk.open (by rw [ints_length]; omega)
  obtain ⟨sb, so, pre, post, hga, r0, r1, r2⟩ := VS.open (Q.get 3 rfl : VS w S1 135 L.ga L.gc (pts (L.gl.map (·.b)))) (by rw [pts_len]; have := (List.getElem?_eq_some_iff.1 hLb).1; omega)
  have hgl : g < (pts (L.gl.map (·.b))).length := by rw [pts_len]; exact (List.getElem?_eq_some_iff.1 hLb).1
  have hkl : (ints z.stack).length = 16 := by rw [ints_length]; exact hs
  refine calls_den (fn := Tryz.f180) (args := [_, _, _, _]) Tryz.func180 rfl (by simp) (fun R hR => ?_)
  refine RUN.box (fun b6 w1 n1 => ?_)
  obtain ⟨Q1, f6, nf6, lf6⟩ := Q.fresh n1
  replace hk1 := n1.at hk1
  replace hrec := n1.at hrec
  have hC := (Q1.get 0 rfl).2
  refine RUN.ld (Q1.blk 1 rfl) rfl ((xC_gs hga)) ?_
  refine BD.mk (so + g * 1) (by first | exact ⟨by decide, by decide, rfl⟩ | exact ⟨by omega, by omega, by omega⟩) ?_
  refine RUN.ld (n1.at r1) rfl ((app_get r2 (pts_get hLb) rfl)) ?_
  refine RUN.ld hrec rfl ((cgC_st hka)) ?_
  refine RUN.ld f6 rfl (show _ = some (i64 i.op) from rfl) ?_
  refine CEq.no (by omega) ?_
  refine CEq.no (by omega) ?_
  refine CEq.no (by omega) ?_
  refine CEq.yes (by omega) ?_
  refine DRAW.q 8 (qs 8 0) (by kernel_rfl) (fun _ _ _ _ _ h => h) ?_
  refine RUNQ.ld f6 rfl (show _ = some (i64 i.a) from rfl) ?_
  refine RUNQ.ld f6 rfl (show _ = some (i64 i.b) from rfl) ?_
  refine BD.mk (ko + i.b * 1) (by first | exact ⟨by decide, by decide, rfl⟩ | exact ⟨by omega, by omega, by omega⟩) ?_
  refine RUNQ.ld hk1 rfl ((app_get hk2 (ints_get (getD_some (by omega))) rfl)) ?_
  intro w2 x2
  refine BD.mk (ko + i.a * 1) (by first | exact ⟨by decide, by decide, rfl⟩ | exact ⟨by omega, by omega, by omega⟩) ?_
  refine RUN.sti (x2.at hk1) rfl (by simp [ints]; omega) (fun w3 u3 => ?_)
  have Q3 := (Q1.ext x2).xstk hL hLg hz hka (x2.at hk1) hk2 (by omega) u3
  exact hR _ _ ⟨rfl, ⟨L, ⟨by simpa using hL.gl, hL.ws, hL.os, hL.wl⟩, hgp, Q3.fin⟩, Q3.cc⟩
theorem plain5 (Y : YAt w S b x cb cm gp) (hgi : gi = g) (hz : x.gs[g]? = some z) (hs : z.stack.length = 16) (ho : i.op = 5) (ha : i.a < 16) :
    Calls PP 180 #[pt b, i64 gi, .agg (inC i).toArray, pt cb] w (PlainPost w S b cb { x with gs := x.gs.set g { z with stack := z.stack.set i.a 0 } } cm gp true) := by
  subst hgi
  obtain ⟨L, hL, hgp, sd⟩ := Y
  obtain ⟨S1, s1, Q⟩ := Rn.start sd
  obtain ⟨Lg, hLg, hLb, hSr, hrec, hstk⟩ := Q.sd.xgo hL hz
  obtain ⟨kb, ko, kpre, kpost, hka, hkS, hk1, hk2⟩ := hstk.open (by rw [ints_length]; omega)
  obtain ⟨sb, so, pre, post, hga, r0, r1, r2⟩ := VS.open (Q.get 3 rfl : VS w S1 135 L.ga L.gc (pts (L.gl.map (·.b)))) (by rw [pts_len]; have := (List.getElem?_eq_some_iff.1 hLb).1; omega)
  have hgl : g < (pts (L.gl.map (·.b))).length := by rw [pts_len]; exact (List.getElem?_eq_some_iff.1 hLb).1
  have hkl : (ints z.stack).length = 16 := by rw [ints_length]; exact hs
  refine calls_den (fn := Tryz.f180) (args := [_, _, _, _]) Tryz.func180 rfl (by simp) (fun R hR => ?_)
  refine RUN.box (fun b6 w1 n1 => ?_)
  obtain ⟨Q1, f6, nf6, lf6⟩ := Q.fresh n1
  replace hk1 := n1.at hk1
  replace hrec := n1.at hrec
  have hC := (Q1.get 0 rfl).2
  refine RUN.ld (Q1.blk 1 rfl) rfl ((xC_gs hga)) ?_
  refine BD.mk (so + g * 1) (by first | exact ⟨by decide, by decide, rfl⟩ | exact ⟨by omega, by omega, by omega⟩) ?_
  refine RUN.ld (n1.at r1) rfl ((app_get r2 (pts_get hLb) rfl)) ?_
  refine RUN.ld hrec rfl ((cgC_st hka)) ?_
  refine RUN.ld f6 rfl (show _ = some (i64 i.op) from rfl) ?_
  refine CEq.no (by omega) ?_
  refine CEq.no (by omega) ?_
  refine CEq.no (by omega) ?_
  refine CEq.no (by omega) ?_
  refine CEq.yes (by omega) ?_
  refine RUN.ld f6 rfl (show _ = some (i64 i.a) from rfl) ?_
  refine BD.mk (ko + i.a * 1) (by first | exact ⟨by decide, by decide, rfl⟩ | exact ⟨by omega, by omega, by omega⟩) ?_
  refine RUN.sti hk1 rfl (by simp [ints]; omega) (fun w3 u3 => ?_)
  have Q3 := Q1.xstk hL hLg hz hka hk1 hk2 (by omega) u3
  exact hR _ _ ⟨rfl, ⟨L, ⟨by simpa using hL.gl, hL.ws, hL.os, hL.wl⟩, hgp, Q3.fin⟩, Q3.cc⟩
theorem plain6 (Y : YAt w S b x cb cm gp) (hgi : gi = g) (hz : x.gs[g]? = some z) (hs : z.stack.length = 16) (ho : i.op = 6) (ha : i.a < 16) (hb : i.b < x.globals.length) :
    Calls PP 180 #[pt b, i64 gi, .agg (inC i).toArray, pt cb] w (PlainPost w S b cb { x with gs := x.gs.set g { z with stack := z.stack.set i.a (x.globals.getD i.b 0) } } cm gp true) := by
  subst hgi
  obtain ⟨L, hL, hgp, sd⟩ := Y
  obtain ⟨S1, s1, Q⟩ := Rn.start sd
  obtain ⟨Lg, hLg, hLb, hSr, hrec, hstk⟩ := Q.sd.xgo hL hz
  obtain ⟨kb, ko, kpre, kpost, hka, hkS, hk1, hk2⟩ := hstk.open (by rw [ints_length]; omega)
  obtain ⟨sb, so, pre, post, hga, r0, r1, r2⟩ := VS.open (Q.get 3 rfl : VS w S1 135 L.ga L.gc (pts (L.gl.map (·.b)))) (by rw [pts_len]; have := (List.getElem?_eq_some_iff.1 hLb).1; omega)
  have hgl : g < (pts (L.gl.map (·.b))).length := by rw [pts_len]; exact (List.getElem?_eq_some_iff.1 hLb).1
  have hkl : (ints z.stack).length = 16 := by rw [ints_length]; exact hs
  refine calls_den (fn := Tryz.f180) (args := [_, _, _, _]) Tryz.func180 rfl (by simp) (fun R hR => ?_)
  refine RUN.box (fun b6 w1 n1 => ?_)
  obtain ⟨Q1, f6, nf6, lf6⟩ := Q.fresh n1
  replace hk1 := n1.at hk1
  replace hrec := n1.at hrec
  have hC := (Q1.get 0 rfl).2
  refine RUN.ld (Q1.blk 1 rfl) rfl ((xC_gs hga)) ?_
  refine BD.mk (so + g * 1) (by first | exact ⟨by decide, by decide, rfl⟩ | exact ⟨by omega, by omega, by omega⟩) ?_
  refine RUN.ld (n1.at r1) rfl ((app_get r2 (pts_get hLb) rfl)) ?_
  refine RUN.ld hrec rfl ((cgC_st hka)) ?_
  refine RUN.ld f6 rfl (show _ = some (i64 i.op) from rfl) ?_
  obtain ⟨lb, lo, lpre, lpost, hla, l0, l1, l2⟩ := VS.open (Q1.get 5 rfl : VS w1 S1 3 L.la L.lc (ints x.globals)) (by rw [ints_length]; omega)
  have hll : (ints x.globals).length = x.globals.length := ints_length _
  refine CEq.no (by omega) ?_
  refine CEq.no (by omega) ?_
  refine CEq.no (by omega) ?_
  refine CEq.no (by omega) ?_
  refine CEq.no (by omega) ?_
  refine CEq.yes (by omega) ?_
  refine DRAW.q 11 (qs 11 0) (by kernel_rfl) (fun _ _ _ _ _ h => h) ?_
  refine RUNQ.ld f6 rfl (show _ = some (i64 i.a) from rfl) ?_
  refine RUNQ.ld (Q1.blk 1 rfl) rfl ((xC_gl hla)) ?_
  refine RUNQ.ld f6 rfl (show _ = some (i64 i.b) from rfl) ?_
  refine BD.mk (lo + i.b * 1) (by first | exact ⟨by decide, by decide, rfl⟩ | exact ⟨by omega, by omega, by omega⟩) ?_
  refine RUNQ.ld l1 rfl ((app_get l2 (ints_get (getD_some hb)) rfl)) ?_
  intro w2 x2
  refine BD.mk (ko + i.a * 1) (by first | exact ⟨by decide, by decide, rfl⟩ | exact ⟨by omega, by omega, by omega⟩) ?_
  refine RUN.sti (x2.at hk1) rfl (by simp [ints]; omega) (fun w3 u3 => ?_)
  have Q3 := (Q1.ext x2).xstk hL hLg hz hka (x2.at hk1) hk2 (by omega) u3
  exact hR _ _ ⟨rfl, ⟨L, ⟨by simpa using hL.gl, hL.ws, hL.os, hL.wl⟩, hgp, Q3.fin⟩, Q3.cc⟩
theorem plain7 (Y : YAt w S b x cb cm gp) (hgi : gi = g) (hz : x.gs[g]? = some z) (hs : z.stack.length = 16) (ho : i.op = 7) (ha : i.a < x.globals.length) (hb : i.b < 16) :
    Calls PP 180 #[pt b, i64 gi, .agg (inC i).toArray, pt cb] w (PlainPost w S b cb { x with globals := x.globals.set i.a (z.stack.getD i.b 0) } cm gp true) := by
  subst hgi
  obtain ⟨L, hL, hgp, sd⟩ := Y
  obtain ⟨S1, s1, Q⟩ := Rn.start sd
  obtain ⟨Lg, hLg, hLb, hSr, hrec, hstk⟩ := Q.sd.xgo hL hz
  obtain ⟨kb, ko, kpre, kpost, hka, hkS, hk1, hk2⟩ := hstk.open (by rw [ints_length]; omega)
  obtain ⟨sb, so, pre, post, hga, r0, r1, r2⟩ := VS.open (Q.get 3 rfl : VS w S1 135 L.ga L.gc (pts (L.gl.map (·.b)))) (by rw [pts_len]; have := (List.getElem?_eq_some_iff.1 hLb).1; omega)
  have hgl : g < (pts (L.gl.map (·.b))).length := by rw [pts_len]; exact (List.getElem?_eq_some_iff.1 hLb).1
  have hkl : (ints z.stack).length = 16 := by rw [ints_length]; exact hs
  refine calls_den (fn := Tryz.f180) (args := [_, _, _, _]) Tryz.func180 rfl (by simp) (fun R hR => ?_)
  refine RUN.box (fun b6 w1 n1 => ?_)
  obtain ⟨Q1, f6, nf6, lf6⟩ := Q.fresh n1
  replace hk1 := n1.at hk1
  replace hrec := n1.at hrec
  have hC := (Q1.get 0 rfl).2
  refine RUN.ld (Q1.blk 1 rfl) rfl ((xC_gs hga)) ?_
  refine BD.mk (so + g * 1) (by first | exact ⟨by decide, by decide, rfl⟩ | exact ⟨by omega, by omega, by omega⟩) ?_
  refine RUN.ld (n1.at r1) rfl ((app_get r2 (pts_get hLb) rfl)) ?_
  refine RUN.ld hrec rfl ((cgC_st hka)) ?_
  refine RUN.ld f6 rfl (show _ = some (i64 i.op) from rfl) ?_
  obtain ⟨lb, lo, lpre, lpost, hla, l0, l1, l2⟩ := VS.open (Q1.get 5 rfl : VS w1 S1 3 L.la L.lc (ints x.globals)) (by rw [ints_length]; omega)
  have hll : (ints x.globals).length = x.globals.length := ints_length _
  refine CEq.no (by omega) ?_
  refine CEq.no (by omega) ?_
  refine CEq.no (by omega) ?_
  refine CEq.no (by omega) ?_
  refine CEq.no (by omega) ?_
  refine CEq.no (by omega) ?_
  refine CEq.yes (by omega) ?_
  refine DRAW.q 11 (qs 11 0) (by kernel_rfl) (fun _ _ _ _ _ h => h) ?_
  refine RUNQ.ld (Q1.blk 1 rfl) rfl ((xC_gl hla)) ?_
  refine RUNQ.ld f6 rfl (show _ = some (i64 i.a) from rfl) ?_
  refine RUNQ.ld f6 rfl (show _ = some (i64 i.b) from rfl) ?_
  refine BD.mk (ko + i.b * 1) (by first | exact ⟨by decide, by decide, rfl⟩ | exact ⟨by omega, by omega, by omega⟩) ?_
  refine RUNQ.ld hk1 rfl ((app_get hk2 (ints_get (getD_some (by omega))) rfl)) ?_
  intro w2 x2
  refine BD.mk (lo + i.a * 1) (by first | exact ⟨by decide, by decide, rfl⟩ | exact ⟨by omega, by omega, by omega⟩) ?_
  refine RUN.sti (x2.at l1) rfl (by simp [ints]; omega) (fun w3 u3 => ?_)
  have Q3 := (Q1.ext x2).upd1 5 rfl u3 (c' := cVS 3 L.la L.lc (ints (x.globals.set i.a (z.stack.getD i.b 0)))) (fun Si si hP => by
    have := VS.upd hP hla (x2.at l1) l2 (by simpa [ints] using ha) u3
    rwa [ints_set] at this)
  refine hR _ _ ⟨rfl, ⟨L, ⟨hL.gl, hL.ws, hL.os, hL.wl⟩, hgp, ?_⟩, Q3.cc⟩
  have e : xC { x with globals := x.globals.set i.a (z.stack.getD i.b 0) } L = xC x L := by simp [xC, ints]
  have Q4 := Q3.fin
  show Side w3 (Nw w S) (cAt cb (B (cmC cm) 53) :: xP b { x with globals := x.globals.set i.a (z.stack.getD i.b 0) } L)
  unfold xP
  rw [e]
  exact Q4
theorem plain13 (Y : YAt w S b x cb cm gp) (hgi : gi = g) (hz : x.gs[g]? = some z) (hs : z.stack.length = 16) (ho : i.op = 13) (ha : i.a < 16) (hb : i.b < 16) :
    Calls PP 180 #[pt b, i64 gi, .agg (inC i).toArray, pt cb] w (PlainPost w S b cb x (if z.stack.getD i.a 0 = z.stack.getD i.b 0 then { cm with value := 1 } else cm) gp true) := by
  subst hgi
  obtain ⟨L, hL, hgp, sd⟩ := Y
  obtain ⟨S1, s1, Q⟩ := Rn.start sd
  obtain ⟨Lg, hLg, hLb, hSr, hrec, hstk⟩ := Q.sd.xgo hL hz
  obtain ⟨kb, ko, kpre, kpost, hka, hkS, hk1, hk2⟩ := hstk.open (by rw [ints_length]; omega)
  obtain ⟨sb, so, pre, post, hga, r0, r1, r2⟩ := VS.open (Q.get 3 rfl : VS w S1 135 L.ga L.gc (pts (L.gl.map (·.b)))) (by rw [pts_len]; have := (List.getElem?_eq_some_iff.1 hLb).1; omega)
  have hgl : g < (pts (L.gl.map (·.b))).length := by rw [pts_len]; exact (List.getElem?_eq_some_iff.1 hLb).1
  have hkl : (ints z.stack).length = 16 := by rw [ints_length]; exact hs
  refine calls_den (fn := Tryz.f180) (args := [_, _, _, _]) Tryz.func180 rfl (by simp) (fun R hR => ?_)
  refine RUN.box (fun b6 w1 n1 => ?_)
  obtain ⟨Q1, f6, nf6, lf6⟩ := Q.fresh n1
  replace hk1 := n1.at hk1
  replace hrec := n1.at hrec
  have hC := (Q1.get 0 rfl).2
  refine RUN.ld (Q1.blk 1 rfl) rfl ((xC_gs hga)) ?_
  refine BD.mk (so + g * 1) (by first | exact ⟨by decide, by decide, rfl⟩ | exact ⟨by omega, by omega, by omega⟩) ?_
  refine RUN.ld (n1.at r1) rfl ((app_get r2 (pts_get hLb) rfl)) ?_
  refine RUN.ld hrec rfl ((cgC_st hka)) ?_
  refine RUN.ld f6 rfl (show _ = some (i64 i.op) from rfl) ?_
  refine CEq.no (by omega) ?_
  refine CEq.no (by omega) ?_
  refine CEq.no (by omega) ?_
  refine CEq.no (by omega) ?_
  refine CEq.no (by omega) ?_
  refine CEq.no (by omega) ?_
  refine CEq.no (by omega) ?_
  refine CEq.yes (by omega) ?_
  refine DRAW.q 10 (qs 10 0) (by kernel_rfl) (fun _ _ _ _ _ h => h) ?_
  refine RUNQ.ld f6 rfl (show _ = some (i64 i.a) from rfl) ?_
  refine BD.mk (ko + i.a * 1) (by first | exact ⟨by decide, by decide, rfl⟩ | exact ⟨by omega, by omega, by omega⟩) ?_
  refine RUNQ.ld hk1 rfl ((app_get hk2 (ints_get (getD_some (by omega))) rfl)) ?_
  refine RUNQ.ld f6 rfl (show _ = some (i64 i.b) from rfl) ?_
  refine BD.mk (ko + i.b * 1) (by first | exact ⟨by decide, by decide, rfl⟩ | exact ⟨by omega, by omega, by omega⟩) ?_
  refine RUNQ.ld hk1 rfl ((app_get hk2 (ints_get (getD_some (by omega))) rfl)) ?_
  intro w2 x2
  by_cases he : z.stack.getD i.a 0 = z.stack.getD i.b 0
  · refine CEq.yes (he) ?_
    rw [if_pos he] at hR
    refine RUN.sti (x2.at hC) rfl (by simp [cmC]) (fun w3 u3 => ?_)
    have Q3 := (Q1.ext x2).st 0 rfl u3
    exact hR _ _ ⟨rfl, ⟨L, hL, hgp, Q3.fin⟩, Q3.cc⟩
  · refine CEq.no (he) ?_
    rw [if_neg he] at hR
    have Q3 := Q1.ext x2
    exact hR _ _ ⟨rfl, ⟨L, hL, hgp, Q3.fin⟩, Q3.cc⟩
theorem plain14 (Y : YAt w S b x cb cm gp) (hgi : gi = g) (hz : x.gs[g]? = some z) (hs : z.stack.length = 16) (ho : i.op = 14) :
    Calls PP 180 #[pt b, i64 gi, .agg (inC i).toArray, pt cb] w (PlainPost w S b cb { x with gs := x.gs.set g { z with pc := i.a } } cm gp true) := by
  subst hgi
  obtain ⟨L, hL, hgp, sd⟩ := Y
  obtain ⟨S1, s1, Q⟩ := Rn.start sd
  obtain ⟨Lg, hLg, hLb, hSr, hrec, hstk⟩ := Q.sd.xgo hL hz
  obtain ⟨kb, ko, kpre, kpost, hka, hkS, hk1, hk2⟩ := hstk.open (by rw [ints_length]; omega)
  obtain ⟨sb, so, pre, post, hga, r0, r1, r2⟩ := VS.open (Q.get 3 rfl : VS w S1 135 L.ga L.gc (pts (L.gl.map (·.b)))) (by rw [pts_len]; have := (List.getElem?_eq_some_iff.1 hLb).1; omega)
  have hgl : g < (pts (L.gl.map (·.b))).length := by rw [pts_len]; exact (List.getElem?_eq_some_iff.1 hLb).1
  have hkl : (ints z.stack).length = 16 := by rw [ints_length]; exact hs
  refine calls_den (fn := Tryz.f180) (args := [_, _, _, _]) Tryz.func180 rfl (by simp) (fun R hR => ?_)
  refine RUN.box (fun b6 w1 n1 => ?_)
  obtain ⟨Q1, f6, nf6, lf6⟩ := Q.fresh n1
  replace hk1 := n1.at hk1
  replace hrec := n1.at hrec
  have hC := (Q1.get 0 rfl).2
  refine RUN.ld (Q1.blk 1 rfl) rfl ((xC_gs hga)) ?_
  refine BD.mk (so + g * 1) (by first | exact ⟨by decide, by decide, rfl⟩ | exact ⟨by omega, by omega, by omega⟩) ?_
  refine RUN.ld (n1.at r1) rfl ((app_get r2 (pts_get hLb) rfl)) ?_
  refine RUN.ld hrec rfl ((cgC_st hka)) ?_
  refine RUN.ld f6 rfl (show _ = some (i64 i.op) from rfl) ?_
  refine CEq.no (by omega) ?_
  refine CEq.no (by omega) ?_
  refine CEq.no (by omega) ?_
  refine CEq.no (by omega) ?_
  refine CEq.no (by omega) ?_
  refine CEq.no (by omega) ?_
  refine CEq.no (by omega) ?_
  refine CEq.no (by omega) ?_
  refine CEq.yes (by omega) ?_
  refine RUN.ld f6 rfl (show _ = some (i64 i.a) from rfl) ?_
  refine RUN.sti hrec rfl (by simp [cgC]) (fun w3 u3 => ?_)
  have Q3 := Q1.xrec hL hLg hz (z' := { z with pc := i.a }) rfl u3
  exact hR _ _ ⟨rfl, ⟨L, ⟨by simpa using hL.gl, hL.ws, hL.os, hL.wl⟩, hgp, Q3.fin⟩, Q3.cc⟩
theorem plain15 (Y : YAt w S b x cb cm gp) (hgi : gi = g) (hz : x.gs[g]? = some z) (hs : z.stack.length = 16) (ho : i.op = 15) (ha : i.a < 16) (hb : i.b < 16) :
    Calls PP 180 #[pt b, i64 gi, .agg (inC i).toArray, pt cb] w (PlainPost w S b cb { x with gs := x.gs.set g (if z.stack.getD i.a 0 = z.stack.getD i.b 0 then { z with pc := i.c } else z) } cm gp true) := by
  subst hgi
  obtain ⟨L, hL, hgp, sd⟩ := Y
  obtain ⟨S1, s1, Q⟩ := Rn.start sd
  obtain ⟨Lg, hLg, hLb, hSr, hrec, hstk⟩ := Q.sd.xgo hL hz
  obtain ⟨kb, ko, kpre, kpost, hka, hkS, hk1, hk2⟩ := hstk.open (by rw [ints_length]; omega)
  obtain ⟨sb, so, pre, post, hga, r0, r1, r2⟩ := VS.open (Q.get 3 rfl : VS w S1 135 L.ga L.gc (pts (L.gl.map (·.b)))) (by rw [pts_len]; have := (List.getElem?_eq_some_iff.1 hLb).1; omega)
  have hgl : g < (pts (L.gl.map (·.b))).length := by rw [pts_len]; exact (List.getElem?_eq_some_iff.1 hLb).1
  have hkl : (ints z.stack).length = 16 := by rw [ints_length]; exact hs
  refine calls_den (fn := Tryz.f180) (args := [_, _, _, _]) Tryz.func180 rfl (by simp) (fun R hR => ?_)
  refine RUN.box (fun b6 w1 n1 => ?_)
  obtain ⟨Q1, f6, nf6, lf6⟩ := Q.fresh n1
  replace hk1 := n1.at hk1
  replace hrec := n1.at hrec
  have hC := (Q1.get 0 rfl).2
  refine RUN.ld (Q1.blk 1 rfl) rfl ((xC_gs hga)) ?_
  refine BD.mk (so + g * 1) (by first | exact ⟨by decide, by decide, rfl⟩ | exact ⟨by omega, by omega, by omega⟩) ?_
  refine RUN.ld (n1.at r1) rfl ((app_get r2 (pts_get hLb) rfl)) ?_
  refine RUN.ld hrec rfl ((cgC_st hka)) ?_
  refine RUN.ld f6 rfl (show _ = some (i64 i.op) from rfl) ?_
  refine CEq.no (by omega) ?_
  refine CEq.no (by omega) ?_
  refine CEq.no (by omega) ?_
  refine CEq.no (by omega) ?_
  refine CEq.no (by omega) ?_
  refine CEq.no (by omega) ?_
  refine CEq.no (by omega) ?_
  refine CEq.no (by omega) ?_
  refine CEq.no (by omega) ?_
  refine CEq.yes (by omega) ?_
  refine DRAW.q 10 (qs 10 0) (by kernel_rfl) (fun _ _ _ _ _ h => h) ?_
  refine RUNQ.ld f6 rfl (show _ = some (i64 i.a) from rfl) ?_
  refine BD.mk (ko + i.a * 1) (by first | exact ⟨by decide, by decide, rfl⟩ | exact ⟨by omega, by omega, by omega⟩) ?_
  refine RUNQ.ld hk1 rfl ((app_get hk2 (ints_get (getD_some (by omega))) rfl)) ?_
  refine RUNQ.ld f6 rfl (show _ = some (i64 i.b) from rfl) ?_
  refine BD.mk (ko + i.b * 1) (by first | exact ⟨by decide, by decide, rfl⟩ | exact ⟨by omega, by omega, by omega⟩) ?_
  refine RUNQ.ld hk1 rfl ((app_get hk2 (ints_get (getD_some (by omega))) rfl)) ?_
  intro w2 x2
  by_cases he : z.stack.getD i.a 0 = z.stack.getD i.b 0
  · refine CEq.yes (he) ?_
    rw [if_pos he] at hR
    refine RUN.ld (x2.at f6) rfl (show _ = some (i64 i.c) from rfl) ?_
    refine RUN.sti (x2.at hrec) rfl (by simp [cgC]) (fun w3 u3 => ?_)
    have Q3 := (Q1.ext x2).xrec hL hLg hz (z' := { z with pc := i.c }) rfl u3
    exact hR _ _ ⟨rfl, ⟨L, ⟨by simpa using hL.gl, hL.ws, hL.os, hL.wl⟩, hgp, Q3.fin⟩, Q3.cc⟩
  · refine CEq.no (he) ?_
    rw [if_neg he, set_self hz] at hR
    have Q3 := Q1.ext x2
    exact hR _ _ ⟨rfl, ⟨L, hL, hgp, Q3.fin⟩, Q3.cc⟩
theorem plain16 (Y : YAt w S b x cb cm gp) (hgi : gi = g) (hz : x.gs[g]? = some z) (hs : z.stack.length = 16) (ho : i.op = 16) (ha : i.a < 256) (hb : i.b < 256) :
    Calls PP 180 #[pt b, i64 gi, .agg (inC i).toArray, pt cb] w (PlainPost w S b cb { x with gs := x.gs.set g { z with count := 256 * i.a + i.b } } cm gp true) := by
  subst hgi
  obtain ⟨L, hL, hgp, sd⟩ := Y
  obtain ⟨S1, s1, Q⟩ := Rn.start sd
  obtain ⟨Lg, hLg, hLb, hSr, hrec, hstk⟩ := Q.sd.xgo hL hz
  obtain ⟨kb, ko, kpre, kpost, hka, hkS, hk1, hk2⟩ := hstk.open (by rw [ints_length]; omega)
  obtain ⟨sb, so, pre, post, hga, r0, r1, r2⟩ := VS.open (Q.get 3 rfl : VS w S1 135 L.ga L.gc (pts (L.gl.map (·.b)))) (by rw [pts_len]; have := (List.getElem?_eq_some_iff.1 hLb).1; omega)
  have hgl : g < (pts (L.gl.map (·.b))).length := by rw [pts_len]; exact (List.getElem?_eq_some_iff.1 hLb).1
  have hkl : (ints z.stack).length = 16 := by rw [ints_length]; exact hs
  refine calls_den (fn := Tryz.f180) (args := [_, _, _, _]) Tryz.func180 rfl (by simp) (fun R hR => ?_)
  refine RUN.box (fun b6 w1 n1 => ?_)
  obtain ⟨Q1, f6, nf6, lf6⟩ := Q.fresh n1
  replace hk1 := n1.at hk1
  replace hrec := n1.at hrec
  have hC := (Q1.get 0 rfl).2
  refine RUN.ld (Q1.blk 1 rfl) rfl ((xC_gs hga)) ?_
  refine BD.mk (so + g * 1) (by first | exact ⟨by decide, by decide, rfl⟩ | exact ⟨by omega, by omega, by omega⟩) ?_
  refine RUN.ld (n1.at r1) rfl ((app_get r2 (pts_get hLb) rfl)) ?_
  refine RUN.ld hrec rfl ((cgC_st hka)) ?_
  refine RUN.ld f6 rfl (show _ = some (i64 i.op) from rfl) ?_
  refine CEq.no (by omega) ?_
  refine CEq.no (by omega) ?_
  refine CEq.no (by omega) ?_
  refine CEq.no (by omega) ?_
  refine CEq.no (by omega) ?_
  refine CEq.no (by omega) ?_
  refine CEq.no (by omega) ?_
  refine CEq.no (by omega) ?_
  refine CEq.no (by omega) ?_
  refine CEq.no (by omega) ?_
  refine CEq.yes (by omega) ?_
  refine RUN.ld f6 rfl (show _ = some (i64 i.a) from rfl) ?_
  refine ART.mul (by omega) (fun m1 g1 => ?_)
  refine RUN.ld f6 rfl (show _ = some (i64 i.b) from rfl) ?_
  refine ART.add (by omega) (fun m2 g2 => ?_)
  have e2 : m2 = ((256 * i.a + i.b : Nat) : Int) := by omega
  subst e2
  refine RUN.sti hrec rfl (by simp [cgC]) (fun w3 u3 => ?_)
  have Q3 := Q1.xrec hL hLg hz (z' := { z with count := 256 * i.a + i.b }) rfl u3
  exact hR _ _ ⟨rfl, ⟨L, ⟨by simpa using hL.gl, hL.ws, hL.os, hL.wl⟩, hgp, Q3.fin⟩, Q3.cc⟩
theorem plain17 (Y : YAt w S b x cb cm gp) (hgi : gi = g) (hz : x.gs[g]? = some z) (hs : z.stack.length = 16) (ho : i.op = 17) (hc : z.count < 65536) :
    Calls PP 180 #[pt b, i64 gi, .agg (inC i).toArray, pt cb] w (PlainPost w S b cb { x with gs := x.gs.set g (if 0 < z.count then { z with count := z.count - 1, pc := i.a } else z) } cm gp true) := by
  subst hgi
  obtain ⟨L, hL, hgp, sd⟩ := Y
  obtain ⟨S1, s1, Q⟩ := Rn.start sd
  obtain ⟨Lg, hLg, hLb, hSr, hrec, hstk⟩ := Q.sd.xgo hL hz
  obtain ⟨kb, ko, kpre, kpost, hka, hkS, hk1, hk2⟩ := hstk.open (by rw [ints_length]; omega)
  obtain ⟨sb, so, pre, post, hga, r0, r1, r2⟩ := VS.open (Q.get 3 rfl : VS w S1 135 L.ga L.gc (pts (L.gl.map (·.b)))) (by rw [pts_len]; have := (List.getElem?_eq_some_iff.1 hLb).1; omega)
  have hgl : g < (pts (L.gl.map (·.b))).length := by rw [pts_len]; exact (List.getElem?_eq_some_iff.1 hLb).1
  have hkl : (ints z.stack).length = 16 := by rw [ints_length]; exact hs
  refine calls_den (fn := Tryz.f180) (args := [_, _, _, _]) Tryz.func180 rfl (by simp) (fun R hR => ?_)
  refine RUN.box (fun b6 w1 n1 => ?_)
  obtain ⟨Q1, f6, nf6, lf6⟩ := Q.fresh n1
  replace hk1 := n1.at hk1
  replace hrec := n1.at hrec
  have hC := (Q1.get 0 rfl).2
  refine RUN.ld (Q1.blk 1 rfl) rfl ((xC_gs hga)) ?_
  refine BD.mk (so + g * 1) (by first | exact ⟨by decide, by decide, rfl⟩ | exact ⟨by omega, by omega, by omega⟩) ?_
  refine RUN.ld (n1.at r1) rfl ((app_get r2 (pts_get hLb) rfl)) ?_
  refine RUN.ld hrec rfl ((cgC_st hka)) ?_
  refine RUN.ld f6 rfl (show _ = some (i64 i.op) from rfl) ?_
  refine CEq.no (by omega) ?_
  refine CEq.no (by omega) ?_
  refine CEq.no (by omega) ?_
  refine CEq.no (by omega) ?_
  refine CEq.no (by omega) ?_
  refine CEq.no (by omega) ?_
  refine CEq.no (by omega) ?_
  refine CEq.no (by omega) ?_
  refine CEq.no (by omega) ?_
  refine CEq.no (by omega) ?_
  refine CEq.no (by omega) ?_
  refine CEq.yes (by omega) ?_
  refine RUN.ld hrec rfl (show _ = some (i64 z.count) from rfl) ?_
  by_cases he : 0 < z.count
  · refine CLt.yes (by omega) ?_
    refine RUN.ld hrec rfl (show _ = some (i64 z.count) from rfl) ?_
    refine ART.sub (by omega) (fun m1 g1 => ?_)
    rw [if_pos he] at hR
    have e1 : m1 = ((z.count - 1 : Nat) : Int) := by omega
    subst e1
    refine RUN.sti hrec rfl (by simp [cgC]) (fun w3 u3 => ?_)
    have Q3 := Q1.xrec hL hLg hz (z' := { z with count := z.count - 1 }) rfl u3
    refine RUN.ld (u3.keep f6 nf6 hSr) rfl (show _ = some (i64 i.a) from rfl) ?_
    refine RUN.sti u3.here rfl (by simp [cgC]) (fun w4 u4 => ?_)
    have hz3 : ({ x with gs := x.gs.set g { z with count := z.count - 1 } } : XS).gs[g]? = some { z with count := z.count - 1 } := set_hit hz
    have Q4 := Q3.xrec (L := L) ⟨by simpa using hL.gl, hL.ws, hL.os, hL.wl⟩ hLg hz3 (z' := { z with count := z.count - 1, pc := i.a }) rfl u4
    simp only [List.set_set] at Q4
    exact hR _ _ ⟨rfl, ⟨L, ⟨by simpa using hL.gl, hL.ws, hL.os, hL.wl⟩, hgp, Q4.fin⟩, Q4.cc⟩
  · refine CLt.no (by omega) ?_
    rw [if_neg he, set_self hz] at hR
    exact hR _ _ ⟨rfl, ⟨L, hL, hgp, Q1.fin⟩, Q1.cc⟩
theorem plain_no (Y : YAt w S b x cb cm gp) (hgi : gi = g) (hz : x.gs[g]? = some z) (hs : z.stack.length = 16) (ho : i.op = 0 ∨ i.op = 8 ∨ i.op = 9 ∨ i.op = 10 ∨ i.op = 11 ∨ i.op = 12) :
    Calls PP 180 #[pt b, i64 gi, .agg (inC i).toArray, pt cb] w (PlainPost w S b cb x cm gp false) := by
  subst hgi
  obtain ⟨L, hL, hgp, sd⟩ := Y
  obtain ⟨S1, s1, Q⟩ := Rn.start sd
  obtain ⟨Lg, hLg, hLb, hSr, hrec, hstk⟩ := Q.sd.xgo hL hz
  obtain ⟨kb, ko, kpre, kpost, hka, hkS, hk1, hk2⟩ := hstk.open (by rw [ints_length]; omega)
  obtain ⟨sb, so, pre, post, hga, r0, r1, r2⟩ := VS.open (Q.get 3 rfl : VS w S1 135 L.ga L.gc (pts (L.gl.map (·.b)))) (by rw [pts_len]; have := (List.getElem?_eq_some_iff.1 hLb).1; omega)
  have hgl : g < (pts (L.gl.map (·.b))).length := by rw [pts_len]; exact (List.getElem?_eq_some_iff.1 hLb).1
  have hkl : (ints z.stack).length = 16 := by rw [ints_length]; exact hs
  refine calls_den (fn := Tryz.f180) (args := [_, _, _, _]) Tryz.func180 rfl (by simp) (fun R hR => ?_)
  refine RUN.box (fun b6 w1 n1 => ?_)
  obtain ⟨Q1, f6, nf6, lf6⟩ := Q.fresh n1
  replace hk1 := n1.at hk1
  replace hrec := n1.at hrec
  have hC := (Q1.get 0 rfl).2
  refine RUN.ld (Q1.blk 1 rfl) rfl ((xC_gs hga)) ?_
  refine BD.mk (so + g * 1) (by first | exact ⟨by decide, by decide, rfl⟩ | exact ⟨by omega, by omega, by omega⟩) ?_
  refine RUN.ld (n1.at r1) rfl ((app_get r2 (pts_get hLb) rfl)) ?_
  refine RUN.ld hrec rfl ((cgC_st hka)) ?_
  refine RUN.ld f6 rfl (show _ = some (i64 i.op) from rfl) ?_
  refine CEq.no (by omega) ?_
  refine CEq.no (by omega) ?_
  refine CEq.no (by omega) ?_
  refine CEq.no (by omega) ?_
  refine CEq.no (by omega) ?_
  refine CEq.no (by omega) ?_
  refine CEq.no (by omega) ?_
  refine CEq.no (by omega) ?_
  refine CEq.no (by omega) ?_
  refine CEq.no (by omega) ?_
  refine CEq.no (by omega) ?_
  refine CEq.no (by omega) ?_
  exact hR _ _ ⟨rfl, ⟨L, hL, hgp, Q1.fin⟩, Q1.cc⟩
theorem plain2_bad (Y : YAt w S b x cb cm gp) (hgi : gi = g) (hz : x.gs[g]? = some z) (hs : z.stack.length = 16) (ho : i.op = 2) (hb : i.b < 16) (hm : (memO x.objs (z.stack.getD i.b 0)).bind (·[i.c]?) = none) (hrl : ∀ l ∈ x.objs, l.length ≤ 2 ^ 20) (hob : x.objs.length ≤ 2 ^ 40) :
    Calls PP 180 #[pt b, i64 gi, .agg (inC i).toArray, pt cb] w (PlainPost w S b cb x { cm with fault := true } gp true) := by
  subst hgi
  obtain ⟨L, hL, hgp, sd⟩ := Y
  obtain ⟨S1, s1, Q⟩ := Rn.start sd
  obtain ⟨Lg, hLg, hLb, hSr, hrec, hstk⟩ := Q.sd.xgo hL hz
  obtain ⟨kb, ko, kpre, kpost, hka, hkS, hk1, hk2⟩ := hstk.open (by rw [ints_length]; omega)
  obtain ⟨sb, so, pre, post, hga, r0, r1, r2⟩ := VS.open (Q.get 3 rfl : VS w S1 135 L.ga L.gc (pts (L.gl.map (·.b)))) (by rw [pts_len]; have := (List.getElem?_eq_some_iff.1 hLb).1; omega)
  have hgl : g < (pts (L.gl.map (·.b))).length := by rw [pts_len]; exact (List.getElem?_eq_some_iff.1 hLb).1
  have hkl : (ints z.stack).length = 16 := by rw [ints_length]; exact hs
  refine calls_den (fn := Tryz.f180) (args := [_, _, _, _]) Tryz.func180 rfl (by simp) (fun R hR => ?_)
  refine RUN.box (fun b6 w1 n1 => ?_)
  obtain ⟨Q1, f6, nf6, lf6⟩ := Q.fresh n1
  replace hk1 := n1.at hk1
  replace hrec := n1.at hrec
  have hC := (Q1.get 0 rfl).2
  refine RUN.ld (Q1.blk 1 rfl) rfl ((xC_gs hga)) ?_
  refine BD.mk (so + g * 1) (by first | exact ⟨by decide, by decide, rfl⟩ | exact ⟨by omega, by omega, by omega⟩) ?_
  refine RUN.ld (n1.at r1) rfl ((app_get r2 (pts_get hLb) rfl)) ?_
  refine RUN.ld hrec rfl ((cgC_st hka)) ?_
  refine RUN.ld f6 rfl (show _ = some (i64 i.op) from rfl) ?_
  refine CEq.no (by omega) ?_
  refine CEq.yes (by omega) ?_
  refine RUN.ld f6 rfl (show _ = some (i64 i.b) from rfl) ?_
  refine BD.mk (ko + i.b * 1) (by first | exact ⟨by decide, by decide, rfl⟩ | exact ⟨by omega, by omega, by omega⟩) ?_
  refine RUN.ld hk1 rfl ((app_get hk2 (ints_get (getD_some (by omega))) rfl)) ?_
  have hos : L.os.length = x.objs.length := by rw [← hL.os]; simp
  by_cases hid : z.stack.getD i.b 0 < 1 ∨ (L.os.length : Int) < z.stack.getD i.b 0
  · refine CALL.by (xslots_none Q1.sd hid) rfl ?_
    rintro e w2 ⟨rfl, x2⟩
    refine RUN.ld (x2.at f6) rfl (show _ = some (i64 i.c) from rfl) ?_
    refine LEN.mk (0) (by first | rfl | simp [ints] | (simp [ints]; omega)) ?_
    refine CLt.no (by omega) ?_
    refine RUN.stb (x2.at hC) rfl (by simp [cmC]) (fun w3 u3 => ?_)
    have Q3 := (Q1.ext x2).st 0 rfl u3
    exact hR _ _ ⟨rfl, ⟨L, hL, hgp, Q3.fin⟩, Q3.cc⟩
  · have hk : ∃ k : Nat, z.stack.getD i.b 0 = k + 1 ∧ k < L.os.length := ⟨(z.stack.getD i.b 0 - 1).toNat, by omega, by omega⟩
    obtain ⟨k, hk, hkl⟩ := hk
    have hr : L.os[k]? = some L.os[k] := List.getElem?_eq_getElem hkl
    generalize L.os[k] = r at hr
    have hrx : x.objs[k]? = some r.l := by rw [← hL.os]; simp [hr]
    have hlen := hrl _ (List.mem_of_getElem? hrx)
    have hm' : r.l[i.c]? = none := by
      have e : memO x.objs (z.stack.getD i.b 0) = some r.l := by
        unfold memO
        rw [if_pos (by omega), hk, show ((k : Int) + 1 - 1).toNat = k by omega, hrx]
      rw [e] at hm
      exact hm
    have hcl : r.l.length ≤ i.c := List.getElem?_eq_none_iff.1 hm'
    refine CALL.by (xslots_some Q1.sd hr hk (by omega)) rfl ?_
    rintro e w2 ⟨rfl, x2⟩
    refine RUN.ld (x2.at f6) rfl (show _ = some (i64 i.c) from rfl) ?_
    refine LEN.mk ((r.l.length : Int)) (by first | rfl | simp [ints] | (simp [ints]; omega)) ?_
    refine CLt.no (by omega) ?_
    refine RUN.stb (x2.at hC) rfl (by simp [cmC]) (fun w3 u3 => ?_)
    have Q3 := (Q1.ext x2).st 0 rfl u3
    exact hR _ _ ⟨rfl, ⟨L, hL, hgp, Q3.fin⟩, Q3.cc⟩
end
end Go.E
end
