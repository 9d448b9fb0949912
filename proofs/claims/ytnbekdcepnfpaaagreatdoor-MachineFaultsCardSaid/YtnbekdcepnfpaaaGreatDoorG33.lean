/- The reference's model: exit, spawn, block, wake; an instruction whole. -/
import Derived.Test.YtnbekdcepnfpaaaGreatDoorG32
set_option linter.unusedVariables false
set_option linter.unusedSimpArgs false
set_option maxRecDepth 10000
noncomputable section
namespace Go.E
open Go Go.Proofs

section
variable {w : World} {S : Nat → Prop} {b cb g : Nat} {x : XS} {z : CG} {i : In} {gi : Int} {cm : Cmt} {gp : List GL}
def OtherPost (w : World) (S : Nat → Prop) (b cb : Nat) (x' : XS) (cm' : Cmt) (gp : List GL) : Ending → World → Prop := fun e w' => e = .returned (.tuple #[]) ∧ (∃ gp', (∀ (n : Nat) (p : GL), gp[n]? = some p → gp'[n]? = some p) ∧ YAt w' (Nw w S) b x' cb cm' gp') ∧ Ch S w w'
theorem other0 (Y : YAt w S b x cb cm gp) (hgi : gi = g) (hz : x.gs[g]? = some z) (ho : i.op = 0) :
    Calls PP 181 #[pt b, i64 gi, .agg (inC i).toArray, pt cb] w (OtherPost w S b cb { x with gs := x.gs.set g { z with st := 5 } } cm gp) := by
  subst hgi
  obtain ⟨L, hL, hgp, sd⟩ := Y
  obtain ⟨S1, s1, Q⟩ := Rn.start sd
  obtain ⟨Lg, hLg, hLb, hSr, hrec, hstk⟩ := Q.sd.xgo hL hz
  obtain ⟨sb, so, pre, post, hga, r0, r1, r2⟩ := VS.open (Q.get 3 rfl : VS w S1 135 L.ga L.gc (pts (L.gl.map (·.b)))) (by rw [pts_len]; have := (List.getElem?_eq_some_iff.1 hLb).1; omega)
  have hgl : g < (pts (L.gl.map (·.b))).length := by rw [pts_len]; exact (List.getElem?_eq_some_iff.1 hLb).1
  refine calls_den (fn := Tryz.f181) (args := [_, _, _, _]) Tryz.func181 rfl (by simp) (fun R hR => ?_)
  refine RUN.box (fun b6 w1 n1 => ?_)
  obtain ⟨Q1, f6, nf6, lf6⟩ := Q.fresh n1
  replace hrec := n1.at hrec
  have hC := (Q1.get 0 rfl).2
  refine RUN.ld (Q1.blk 1 rfl) rfl ((xC_gs hga)) ?_
  refine BD.mk (so + g * 1) (by first | exact ⟨by decide, by decide, rfl⟩ | exact ⟨by omega, by omega, by omega⟩) ?_
  refine RUN.ld (n1.at r1) rfl ((app_get r2 (pts_get hLb) rfl)) ?_
  refine RUN.ld f6 rfl (show _ = some (i64 i.op) from rfl) ?_
  refine CEq.yes (by omega) ?_
  refine RUN.sti hrec rfl (by simp [cgC]) (fun w3 u3 => ?_)
  have Q3 := Q1.xrec hL hLg hz (z' := { z with st := 5 }) rfl u3
  exact hR _ _ ⟨rfl, ⟨_, fun _ _ h => h, L, ⟨by simpa using hL.gl, hL.ws, hL.os, hL.wl⟩, hgp, Q3.fin⟩, Q3.cc⟩
theorem other9 (Y : YAt w S b x cb cm gp) (hgi : gi = g) (hz : x.gs[g]? = some z) (ho : i.op = 9) :
    Calls PP 181 #[pt b, i64 gi, .agg (inC i).toArray, pt cb] w (OtherPost w S b cb x cm gp) := by
  subst hgi
  obtain ⟨L, hL, hgp, sd⟩ := Y
  obtain ⟨S1, s1, Q⟩ := Rn.start sd
  obtain ⟨Lg, hLg, hLb, hSr, hrec, hstk⟩ := Q.sd.xgo hL hz
  obtain ⟨sb, so, pre, post, hga, r0, r1, r2⟩ := VS.open (Q.get 3 rfl : VS w S1 135 L.ga L.gc (pts (L.gl.map (·.b)))) (by rw [pts_len]; have := (List.getElem?_eq_some_iff.1 hLb).1; omega)
  have hgl : g < (pts (L.gl.map (·.b))).length := by rw [pts_len]; exact (List.getElem?_eq_some_iff.1 hLb).1
  refine calls_den (fn := Tryz.f181) (args := [_, _, _, _]) Tryz.func181 rfl (by simp) (fun R hR => ?_)
  refine RUN.box (fun b6 w1 n1 => ?_)
  obtain ⟨Q1, f6, nf6, lf6⟩ := Q.fresh n1
  replace hrec := n1.at hrec
  have hC := (Q1.get 0 rfl).2
  refine RUN.ld (Q1.blk 1 rfl) rfl ((xC_gs hga)) ?_
  refine BD.mk (so + g * 1) (by first | exact ⟨by decide, by decide, rfl⟩ | exact ⟨by omega, by omega, by omega⟩) ?_
  refine RUN.ld (n1.at r1) rfl ((app_get r2 (pts_get hLb) rfl)) ?_
  refine RUN.ld f6 rfl (show _ = some (i64 i.op) from rfl) ?_
  refine CEq.no (by omega) ?_
  refine CEq.no (by omega) ?_
  refine CEq.no (by omega) ?_
  refine CEq.no (by omega) ?_
  refine CEq.no (by omega) ?_
  exact hR _ _ ⟨rfl, ⟨_, fun _ _ h => h, L, hL, hgp, Q1.fin⟩, Q1.cc⟩
theorem other8_bad (Y : YAt w S b x cb cm gp) (hgi : gi = g) (hz : x.gs[g]? = some z) (ho : i.op = 8) (hl : 1024 ≤ x.gs.length) :
    Calls PP 181 #[pt b, i64 gi, .agg (inC i).toArray, pt cb] w (OtherPost w S b cb x { cm with fault := true } gp) := by
  subst hgi
  obtain ⟨L, hL, hgp, sd⟩ := Y
  obtain ⟨S1, s1, Q⟩ := Rn.start sd
  obtain ⟨Lg, hLg, hLb, hSr, hrec, hstk⟩ := Q.sd.xgo hL hz
  obtain ⟨sb, so, pre, post, hga, r0, r1, r2⟩ := VS.open (Q.get 3 rfl : VS w S1 135 L.ga L.gc (pts (L.gl.map (·.b)))) (by rw [pts_len]; have := (List.getElem?_eq_some_iff.1 hLb).1; omega)
  have hgl : g < (pts (L.gl.map (·.b))).length := by rw [pts_len]; exact (List.getElem?_eq_some_iff.1 hLb).1
  refine calls_den (fn := Tryz.f181) (args := [_, _, _, _]) Tryz.func181 rfl (by simp) (fun R hR => ?_)
  refine RUN.box (fun b6 w1 n1 => ?_)
  obtain ⟨Q1, f6, nf6, lf6⟩ := Q.fresh n1
  replace hrec := n1.at hrec
  have hC := (Q1.get 0 rfl).2
  refine RUN.ld (Q1.blk 1 rfl) rfl ((xC_gs hga)) ?_
  refine BD.mk (so + g * 1) (by first | exact ⟨by decide, by decide, rfl⟩ | exact ⟨by omega, by omega, by omega⟩) ?_
  refine RUN.ld (n1.at r1) rfl ((app_get r2 (pts_get hLb) rfl)) ?_
  refine RUN.ld f6 rfl (show _ = some (i64 i.op) from rfl) ?_
  refine CEq.no (by omega) ?_
  refine CEq.yes (by omega) ?_
  refine RUN.ld (Q1.blk 1 rfl) rfl (rfl) ?_
  refine LEN.mk (x.gs.length : Int) (by simp [pts, hL.gl]) ?_
  refine CLt.no (by omega) ?_
  refine RUN.stb hC rfl (by simp [cmC]) (fun w3 u3 => ?_)
  have Q3 := Q1.st 0 rfl u3
  exact hR _ _ ⟨rfl, ⟨_, fun _ _ h => h, L, hL, hgp, Q3.fin⟩, Q3.cc⟩
theorem xP_len {L : XL} (hL : XLok x L) : (xP b x L).length = 40 := by
  have h : L.ws.length = 32 := by rw [← hL.wl, ← hL.ws]; simp
  simp [xP, h]
theorem other8 (Y : YAt w S b x cb cm gp) (hgi : gi = g) (hz : x.gs[g]? = some z) (hs : z.stack.length = 16) (ho : i.op = 8) (hb : i.b < 16) (hl : x.gs.length < 1024) :
    Calls PP 181 #[pt b, i64 gi, .agg (inC i).toArray, pt cb] w (OtherPost w S b cb { x with gs := x.gs ++ [⟨1, i.a, 0, 0, stk0 (z.stack.getD i.b 0)⟩] } { cm with value := x.gs.length } gp) := by
  subst hgi
  obtain ⟨L, hL, hgp, sd⟩ := Y
  obtain ⟨S1, s1, Q⟩ := Rn.start sd
  obtain ⟨Lg, hLg, hLb, hSr, hrec, hstk⟩ := Q.sd.xgo hL hz
  obtain ⟨sb, so, pre, post, hga, r0, r1, r2⟩ := VS.open (Q.get 3 rfl : VS w S1 135 L.ga L.gc (pts (L.gl.map (·.b)))) (by rw [pts_len]; have := (List.getElem?_eq_some_iff.1 hLb).1; omega)
  have hgl : g < (pts (L.gl.map (·.b))).length := by rw [pts_len]; exact (List.getElem?_eq_some_iff.1 hLb).1
  refine calls_den (fn := Tryz.f181) (args := [_, _, _, _]) Tryz.func181 rfl (by simp) (fun R hR => ?_)
  refine RUN.box (fun b6 w1 n1 => ?_)
  obtain ⟨Q1, f6, nf6, lf6⟩ := Q.fresh n1
  replace hrec := n1.at hrec
  have hC := (Q1.get 0 rfl).2
  refine RUN.ld (Q1.blk 1 rfl) rfl ((xC_gs hga)) ?_
  refine BD.mk (so + g * 1) (by first | exact ⟨by decide, by decide, rfl⟩ | exact ⟨by omega, by omega, by omega⟩) ?_
  refine RUN.ld (n1.at r1) rfl ((app_get r2 (pts_get hLb) rfl)) ?_
  refine RUN.ld f6 rfl (show _ = some (i64 i.op) from rfl) ?_
  obtain ⟨kb, ko, kpre, kpost, hka, hkS, hk1, hk2⟩ := hstk.open (by rw [ints_length]; omega)
  replace hk1 := n1.at hk1
  refine CEq.no (by omega) ?_
  refine CEq.yes (by omega) ?_
  refine RUN.ld (Q1.blk 1 rfl) rfl (rfl) ?_
  refine LEN.mk (x.gs.length : Int) (by simp [pts, hL.gl]) ?_
  have hkl : (ints z.stack).length = 16 := by rw [ints_length]; exact hs
  refine CLt.yes ((by omega)) ?_
  refine DRAW.of 13 [(0, .q), (1, .q), (2, .q), (3, .q), (4, .q), (5, .q), (6, .q), (7, .q), (8, .q), (9, .q), (10, .q), (11, .q), (12, .s)]
    (fun w' => At w' b6 (B (inC i) 33) ∧ At w' Lg.b (B (cgC Lg z) 134) ∧ ∃ cs, At w' kb (B cs 3) ∧ cs[ko + i.b * 1]? = some (i64 (z.stack.getD i.b 0))) (by kernel_rfl) (fun _ _ _ _ _ h => h)
    (fun w w' h h' => ⟨h'.at h.1, h'.at h.2.1, by obtain ⟨cs, h1, h2⟩ := h.2.2; exact ⟨cs, h'.at h1, h2⟩⟩) ⟨f6, hrec, _, hk1, app_get hk2 (ints_get (getD_some (by omega))) rfl⟩ ?_
  refine RUNQ.mk (i64 i.a) (fun w' hs => load_run (cs := inC i) rfl hs.1 rfl) ?_
  refine RUNQ.mk (.slice (some ⟨kb, ko, none⟩) (ints z.stack).length Lg.c) (fun w' hs => load_run (cs := cgC Lg z) rfl hs.2.1 (cgC_st hka)) ?_
  refine RUNQ.mk (i64 i.b) (fun w' hs => load_run (cs := inC i) rfl hs.1 rfl) ?_
  refine BD.mk (ko + i.b * 1) (by first | exact ⟨by decide, by decide, rfl⟩ | exact ⟨by omega, by omega, by omega⟩) ?_
  refine RUNQ.mk (i64 (z.stack.getD i.b 0)) (fun w' hs => by obtain ⟨cs, h1, h2⟩ := hs.2.2; exact load_run rfl h1 h2) ?_
  intro w2 x2 y2
  have Q2 := Q1.ext x2
  obtain ⟨Sm, sm, hX, cl⟩ := Q2.tl
  refine CALL.by (xspawn_in (f := i.a) (⟨L, hL, hgp, hX⟩ : XBt w2 Sm b x gp) rfl (by omega)) rfl ?_
  rintro e w3 ⟨rfl, ⟨gN, L3, hL3, hg3, h35⟩, c3⟩
  obtain ⟨S3, Q3, k3⟩ := cl (Qs := xP b { x with gs := x.gs ++ [⟨1, i.a, 0, 0, stk0 (z.stack.getD i.b 0)⟩] } L3) (by rw [xP_len hL, xP_len hL3]) c3 h35
  have hz3 : ({ x with gs := x.gs ++ [⟨1, i.a, 0, 0, stk0 (z.stack.getD i.b 0)⟩] } : XS).gs[g]? = some z := by
    show (x.gs ++ _)[g]? = _
    rw [List.getElem?_append_left (List.getElem?_eq_some_iff.1 hz).1]; exact hz
  obtain ⟨Lg3, hLg3, _, _, hrec3, hstk3⟩ := Q3.sd.xgo hL3 hz3
  have eLg : Lg3 = Lg := by
    rw [hg3, List.getElem?_append_left (by rw [← hgp]; exact (List.getElem?_eq_some_iff.1 hLg).1), ← hgp, hLg] at hLg3
    exact (Option.some.inj hLg3).symm
  subst eLg
  obtain ⟨kb3, ko3, kpre3, kpost3, hka3, hkS3, hk31, hk32⟩ := hstk3.open (by rw [ints_length]; omega)
  rw [hka] at hka3
  cases hka3
  refine ⟨⟨c3.at (x2.at f6) (fun hh => nf6 (sm _ hh).1), hrec3, _, hk31, app_get hk32 (ints_get (getD_some (by omega))) rfl⟩, ?_⟩
  intro w4 x4
  refine RUN.sti ((Q3.ext x4).blk 0 rfl) rfl (by simp [cmC]) (fun w5 u5 => ?_)
  have Q5 := (Q3.ext x4).st 0 rfl u5
  exact hR _ _ ⟨rfl, ⟨_, fun n p h => by rw [List.getElem?_append_left (List.getElem?_eq_some_iff.1 h).1]; exact h, L3, hL3, hg3, Q5.fin⟩, Q5.cc⟩
theorem other11 (Y : YAt w S b x cb cm gp) (hgi : gi = g) (hz : x.gs[g]? = some z) (ho : i.op = 11) (ha : i.a < 32) (hl : ∀ l ∈ x.waits, l.length ≤ 2 ^ 30) (hg : ∀ l ∈ x.waits, gi ∉ l) :
    Calls PP 181 #[pt b, i64 gi, .agg (inC i).toArray, pt cb] w (OtherPost w S b cb { x with gs := x.gs.set g { z with st := 3 }, waits := x.waits.set i.a (x.waits.getD i.a [] ++ [gi]) } cm gp) := by
  subst hgi
  obtain ⟨L, hL, hgp, sd⟩ := Y
  obtain ⟨S1, s1, Q⟩ := Rn.start sd
  obtain ⟨Lg, hLg, hLb, hSr, hrec, hstk⟩ := Q.sd.xgo hL hz
  obtain ⟨sb, so, pre, post, hga, r0, r1, r2⟩ := VS.open (Q.get 3 rfl : VS w S1 135 L.ga L.gc (pts (L.gl.map (·.b)))) (by rw [pts_len]; have := (List.getElem?_eq_some_iff.1 hLb).1; omega)
  have hgl : g < (pts (L.gl.map (·.b))).length := by rw [pts_len]; exact (List.getElem?_eq_some_iff.1 hLb).1
  refine calls_den (fn := Tryz.f181) (args := [_, _, _, _]) Tryz.func181 rfl (by simp) (fun R hR => ?_)
  refine RUN.box (fun b6 w1 n1 => ?_)
  obtain ⟨Q1, f6, nf6, lf6⟩ := Q.fresh n1
  replace hrec := n1.at hrec
  have hC := (Q1.get 0 rfl).2
  refine RUN.ld (Q1.blk 1 rfl) rfl ((xC_gs hga)) ?_
  refine BD.mk (so + g * 1) (by first | exact ⟨by decide, by decide, rfl⟩ | exact ⟨by omega, by omega, by omega⟩) ?_
  refine RUN.ld (n1.at r1) rfl ((app_get r2 (pts_get hLb) rfl)) ?_
  refine RUN.ld f6 rfl (show _ = some (i64 i.op) from rfl) ?_
  refine CEq.no (by omega) ?_
  refine CEq.no (by omega) ?_
  refine CEq.no (by omega) ?_
  refine CEq.yes (by omega) ?_
  refine RUN.sti hrec rfl (by simp [cgC]) (fun w3 u3 => ?_)
  have Q3 := Q1.xrec hL hLg hz (z' := { z with st := 3 }) rfl u3
  have f3 := u3.keep f6 nf6 hSr
  refine DRAW.q 6 (qs 6 0) (by kernel_rfl) (fun _ _ _ _ _ h => h) ?_
  refine RUNQ.ld f3 rfl (show _ = some (i64 i.a) from rfl) ?_
  intro w4 x4
  have hL3 : XLok { x with gs := x.gs.set g { z with st := 3 } } L := ⟨by simpa using hL.gl, hL.ws, hL.os, hL.wl⟩
  have hwl : L.ws.length = 32 := by rw [← hL.wl, ← hL.ws]; simp
  obtain ⟨r, hr⟩ : ∃ r, L.ws[i.a]? = some r := ⟨_, List.getElem?_eq_getElem (by omega)⟩
  have hrl : x.waits.getD i.a [] = r.l := by rw [← hL.ws, List.getD_eq_getElem?_getD]; simp [hr]
  have Q4 := Q3.ext x4
  refine CALL.by (xwait_in Q4.sd hL3 rfl hr hl hg) rfl ?_
  rintro e w5 ⟨rfl, ⟨L5, hL5, hg5, h5⟩, c5⟩
  rw [hrl] at hR
  exact hR _ _ ⟨rfl, ⟨_, fun _ _ h => h, L5, hL5, hg5.trans hgp, Side.fm.mono h5 fun y hy hh => by
    have z4 := Q4.cc.size
    rcases hh with hh | hh
    · exact Q4.oo y hh
    · exact .inr (by omega)⟩, Q4.cc.sub c5 (fun y hy => Q4.oo y hy)⟩
theorem other12_none (Y : YAt w S b x cb cm gp) (hgi : gi = g) (hz : x.gs[g]? = some z) (ho : i.op = 12) (ha : i.a < 32) (hn : x.waits.getD i.a [] = []) :
    Calls PP 181 #[pt b, i64 gi, .agg (inC i).toArray, pt cb] w (OtherPost w S b cb x { cm with value := -1 } gp) := by
  subst hgi
  obtain ⟨L, hL, hgp, sd⟩ := Y
  obtain ⟨S1, s1, Q⟩ := Rn.start sd
  obtain ⟨Lg, hLg, hLb, hSr, hrec, hstk⟩ := Q.sd.xgo hL hz
  obtain ⟨sb, so, pre, post, hga, r0, r1, r2⟩ := VS.open (Q.get 3 rfl : VS w S1 135 L.ga L.gc (pts (L.gl.map (·.b)))) (by rw [pts_len]; have := (List.getElem?_eq_some_iff.1 hLb).1; omega)
  have hgl : g < (pts (L.gl.map (·.b))).length := by rw [pts_len]; exact (List.getElem?_eq_some_iff.1 hLb).1
  refine calls_den (fn := Tryz.f181) (args := [_, _, _, _]) Tryz.func181 rfl (by simp) (fun R hR => ?_)
  refine RUN.box (fun b6 w1 n1 => ?_)
  obtain ⟨Q1, f6, nf6, lf6⟩ := Q.fresh n1
  replace hrec := n1.at hrec
  have hC := (Q1.get 0 rfl).2
  refine RUN.ld (Q1.blk 1 rfl) rfl ((xC_gs hga)) ?_
  refine BD.mk (so + g * 1) (by first | exact ⟨by decide, by decide, rfl⟩ | exact ⟨by omega, by omega, by omega⟩) ?_
  refine RUN.ld (n1.at r1) rfl ((app_get r2 (pts_get hLb) rfl)) ?_
  refine RUN.ld f6 rfl (show _ = some (i64 i.op) from rfl) ?_
  refine CEq.no (by omega) ?_
  refine CEq.no (by omega) ?_
  refine CEq.no (by omega) ?_
  refine CEq.no (by omega) ?_
  refine CEq.yes (by omega) ?_
  refine RUN.sti hC rfl (by simp [cmC]) (fun w3 u3 => ?_)
  have Q3 := Q1.st 0 rfl u3
  have f3 := u3.keep f6 nf6 (Q1.get 0 rfl).1
  have hwl : L.ws.length = 32 := by rw [← hL.wl, ← hL.ws]; simp
  obtain ⟨r, hr⟩ : ∃ r, L.ws[i.a]? = some r := ⟨_, List.getElem?_eq_getElem (by omega)⟩
  have hrl : x.waits.getD i.a [] = r.l := by rw [← hL.ws, List.getD_eq_getElem?_getD]; simp [hr]
  refine DRAW.q 10 [(0, .q), (1, .q), (2, .q), (3, .q), (4, .q), (5, .f), (6, .q), (7, .q), (8, .q), (9, .q)] (by kernel_rfl) (fun _ _ _ _ _ h => h) ?_
  refine RUNQ.ld f3 rfl (show _ = some (i64 i.a) from rfl) ?_
  intro w4 x4 y4
  have Q4 := Q3.ext x4
  refine CALL.by (xwake_none Q4.sd hL rfl hr (by rw [← hrl]; exact hn)) rfl ?_
  rintro e w5 ⟨rfl, x5⟩
  intro w6 x6
  have Q6 := (Q4.ext x5).ext x6
  exact hR _ _ ⟨rfl, ⟨_, fun _ _ h => h, L, hL, hgp, Q6.fin⟩, Q6.cc⟩
theorem other12 {k : Nat} {t : List Int} {zk : CG} (Y : YAt w S b x cb cm gp) (hgi : gi = g) (hz : x.gs[g]? = some z) (ho : i.op = 12) (ha : i.a < 32) (hn : x.waits.getD i.a [] = (k : Int) :: t) (hk : x.gs[k]? = some zk) :
    Calls PP 181 #[pt b, i64 gi, .agg (inC i).toArray, pt cb] w (OtherPost w S b cb { x with gs := x.gs.set k { zk with st := 1 }, waits := x.waits.set i.a t } { cm with value := k } gp) := by
  subst hgi
  obtain ⟨L, hL, hgp, sd⟩ := Y
  obtain ⟨S1, s1, Q⟩ := Rn.start sd
  obtain ⟨Lg, hLg, hLb, hSr, hrec, hstk⟩ := Q.sd.xgo hL hz
  obtain ⟨sb, so, pre, post, hga, r0, r1, r2⟩ := VS.open (Q.get 3 rfl : VS w S1 135 L.ga L.gc (pts (L.gl.map (·.b)))) (by rw [pts_len]; have := (List.getElem?_eq_some_iff.1 hLb).1; omega)
  have hgl : g < (pts (L.gl.map (·.b))).length := by rw [pts_len]; exact (List.getElem?_eq_some_iff.1 hLb).1
  refine calls_den (fn := Tryz.f181) (args := [_, _, _, _]) Tryz.func181 rfl (by simp) (fun R hR => ?_)
  refine RUN.box (fun b6 w1 n1 => ?_)
  obtain ⟨Q1, f6, nf6, lf6⟩ := Q.fresh n1
  replace hrec := n1.at hrec
  have hC := (Q1.get 0 rfl).2
  refine RUN.ld (Q1.blk 1 rfl) rfl ((xC_gs hga)) ?_
  refine BD.mk (so + g * 1) (by first | exact ⟨by decide, by decide, rfl⟩ | exact ⟨by omega, by omega, by omega⟩) ?_
  refine RUN.ld (n1.at r1) rfl ((app_get r2 (pts_get hLb) rfl)) ?_
  refine RUN.ld f6 rfl (show _ = some (i64 i.op) from rfl) ?_
  refine CEq.no (by omega) ?_
  refine CEq.no (by omega) ?_
  refine CEq.no (by omega) ?_
  refine CEq.no (by omega) ?_
  refine CEq.yes (by omega) ?_
  refine RUN.sti hC rfl (by simp [cmC]) (fun w3 u3 => ?_)
  have Q3 := Q1.st 0 rfl u3
  replace Q3 : Rn w S w3 S1 (cAt cb (B (cmC { cm with value := -1 }) 53) :: xP b x L) := Q3
  have f3 := u3.keep f6 nf6 (Q1.get 0 rfl).1
  have hwl : L.ws.length = 32 := by rw [← hL.wl, ← hL.ws]; simp
  obtain ⟨r, hr⟩ : ∃ r, L.ws[i.a]? = some r := ⟨_, List.getElem?_eq_getElem (by omega)⟩
  have hrl : x.waits.getD i.a [] = r.l := by rw [← hL.ws, List.getD_eq_getElem?_getD]; simp [hr]
  refine DRAW.q 10 [(0, .q), (1, .q), (2, .q), (3, .q), (4, .q), (5, .f), (6, .q), (7, .q), (8, .q), (9, .q)] (by kernel_rfl) (fun _ _ _ _ _ h => h) ?_
  refine RUNQ.ld f3 rfl (show _ = some (i64 i.a) from rfl) ?_
  intro w4 x4 y4
  have Q4 := Q3.ext x4
  refine CALL.by (xwake_in Q4.sd hL rfl hr (by rw [← hrl]; exact hn)) rfl ?_
  rintro e w5 ⟨rfl, ⟨L5, hL5, hg5, h5⟩, c5⟩
  intro w6 x6
  have z4 := Q4.cc.size
  have Q5 : Rn w S w5 (fun y => Nw w4 S1 y ∧ y < w5.heap.size) (cAt cb (B (cmC { cm with value := -1 }) 53) :: xP b { x with waits := x.waits.set i.a t } L5) := ⟨Q4.cc.sub c5 (fun y hy => Q4.oo y hy), fun y hy => by
    rcases hy.1 with hh | hh
    · exact Q4.oo y hh
    · exact .inr (by omega), fun y hy => hy.2, Side.fm.mono h5 fun y hy hs => ⟨hs, hy⟩⟩
  have Q6 := Q5.ext x6
  have hk5 : ({ x with waits := x.waits.set i.a t } : XS).gs[k]? = some zk := hk
  obtain ⟨Lk, hLk, hLkb, hSk, hreck, _⟩ := Q6.sd.xgo hL5 hk5
  obtain ⟨sb2, so2, pre2, post2, hga2, q0, q1, q2⟩ := VS.open (Q6.get 3 rfl : VS w6 _ 135 L5.ga L5.gc (pts (L5.gl.map (·.b)))) (by rw [pts_len]; have := (List.getElem?_eq_some_iff.1 hLkb).1; omega)
  have hkl : k < (pts (L5.gl.map (·.b))).length := by rw [pts_len]; exact (List.getElem?_eq_some_iff.1 hLkb).1
  refine RUN.ld (Q6.blk 1 rfl) rfl ((xC_gs hga2)) ?_
  refine BD.mk (so2 + k * 1) (by first | exact ⟨by decide, by decide, rfl⟩ | exact ⟨by omega, by omega, by omega⟩) ?_
  refine RUN.ld q1 rfl ((app_get q2 (pts_get hLkb) rfl)) ?_
  refine RUN.sti hreck rfl (by simp [cgC]) (fun w7 u7 => ?_)
  have Q7 := Q6.xrec hL5 hLk hk5 (z' := { zk with st := 1 }) rfl u7
  refine RUN.sti (Q7.blk 0 rfl) rfl (by simp [cmC]) (fun w8 u8 => ?_)
  have Q8 := Q7.st 0 rfl u8
  exact hR _ _ ⟨rfl, ⟨_, fun _ _ h => h, L5, ⟨by simpa using hL5.gl, hL5.ws, hL5.os, hL5.wl⟩, hg5.trans hgp, Q8.fin⟩, Q8.cc⟩
end
end Go.E
end
