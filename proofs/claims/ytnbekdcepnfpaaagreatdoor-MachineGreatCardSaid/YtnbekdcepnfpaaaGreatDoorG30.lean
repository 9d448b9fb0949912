/- The reference's model is made. -/
import Derived.Test.YtnbekdcepnfpaaaGreatDoorG29
import Derived.Test.YtnbekdcepnfpaaaGreatDoorG12
set_option linter.unusedVariables false
set_option linter.unusedSimpArgs false
set_option maxRecDepth 10000
noncomputable section
namespace Go.E
open Go Go.Proofs

def xs0 (g : Nat) (fs : List (List In)) : XS := ⟨fs, g, [], List.replicate g 0, [], [], List.replicate 32 [], 0⟩
theorem xspawn_in {w : World} {S : Nat → Prop} {b f : Nat} {fi v : Int} {x : XS} {gp : List GL} (h : XBt w S b x gp) (hf : fi = f) (hl : x.gs.length ≤ 2 ^ 20) :
    Calls PP 132 #[pt b, i64 fi, i64 v] w (fun e w' => e = .returned (i64 x.gs.length) ∧ (∃ gN, XBt w' (Nw w S) b { x with gs := x.gs ++ [⟨1, f, 0, 0, stk0 v⟩] } (gp ++ [gN])) ∧ Ch S w w') := by
  subst hf
  obtain ⟨L, ⟨hgl, hws, hos, hwl⟩, hgp, sd⟩ := h
  obtain ⟨S1, s1, Q⟩ := Rn.start sd
  refine calls_den (fn := Tryz.f132) (args := [_, _, _]) Tryz.func132 rfl (by simp) (fun R hR => ?_)
  refine RUN.mkslice (n := 16) rfl rfl rfl rfl rfl rfl (by decide) rfl (fun bl w1 n1 => ?_)
  refine RUN.box (fun nb w2 n2 => ?_)
  refine RUN.ld n2.here rfl (rfl) ?_
  refine BD.mk (0 + 0 * 1) (by first | exact ⟨by decide, by decide, rfl⟩ | exact ⟨by omega, by omega, by omega⟩) ?_
  refine RUN.sti (n2.at n1.here) rfl (by simp) (fun w3 u3 => ?_)
  have hb1 := n1.blk
  have hb2 := n2.blk
  have hz1 := n1.ext.size
  have hne : bl ≠ nb := n2.ne n1.here
  have x3 : Ext w w3 := (n1.ext.trans' n2.ext).trans u3.ch (fun y hy hb => by omega)
  have hG : (cG ⟨nb, some ⟨bl, 0, none⟩, 16⟩ ⟨1, f, 0, 0, stk0 v⟩).P w3 (fun y => y = bl ∨ y = nb) := by
    refine ⟨fun y => if y = nb then 0 else 1, fun i c hi => ?_⟩
    rcases i with _ | _ | i
    · simp only [List.getElem?_cons_zero, Option.some.injEq] at hi
      subst hi
      exact ⟨⟨.inr rfl, if_pos rfl⟩, u3.at n2.here (Ne.symm hne)⟩
    · simp only [List.getElem?_cons_succ, List.getElem?_cons_zero, Option.some.injEq] at hi
      subst hi
      have hc : At w3 bl (B (ints (stk0 v)) 3) := u3.here
      exact ⟨by simp [ints, stk0], .inr ⟨bl, 0, 16, [], [], by simp [ints, stk0], ⟨.inl rfl, if_neg hne⟩, by simpa using hc, rfl, by simp [ints, stk0], by simp [ints, stk0]⟩⟩
    · simp at hi
  obtain ⟨gN, hgN⟩ : ∃ gN : GL, gN = ⟨nb, some ⟨bl, 0, none⟩, 16⟩ := ⟨_, rfl⟩
  rw [← hgN] at hG
  have hgb : gN.b = nb := by rw [hgN]
  obtain ⟨Si, si, hP, cl⟩ := Q.step 3 rfl
  have hP' : Side w3 (fun y => Si y ∧ y < w.heap.size) (cGs L.gl x.gs) := Side.fm.to hP x3 fun y hy hs => ⟨id, hs, hy⟩
  obtain ⟨S3, Q3, kp3, kn3⟩ := cl (cSide (cGs (L.gl ++ [gN]) (x.gs ++ [⟨1, f, 0, 0, stk0 v⟩]))) (Si' := fun y => (Si y ∧ y < w.heap.size) ∨ (y = bl ∨ y = nb)) x3.ch (by
    rintro y (hy | rfl | rfl)
    · exact .inl hy.1
    · exact .inr (by omega)
    · exact .inr (by omega)) (by
    rw [cGs_app hgl]
    exact Side.snoc hP' hG (fun y h1 h2 => by have := h1.2; rcases h2 with rfl | rfl <;> omega))
  refine RUN.ld (Q3.blk 0 rfl) rfl (rfl) ?_
  refine RUN.buildSlice rfl rfl rfl rfl rfl rfl rfl (fun b4 w4 n4 => ?_)
  have Q4 := Q3.ext n4.ext
  obtain ⟨Sj, sj, hV, cl2⟩ := Q4.step 2 rfl
  have hV' : VS w4 Sj 135 L.ga L.gc (pts (L.gl.map (·.b))) := hV
  refine RUN.vapp1 (v := pt nb) hV' n4.here rfl rfl rfl rfl rfl rfl (by rw [pts_len]; simp; omega) rfl (fun a' c' w5 hv hc => ?_)
  obtain ⟨S5', o5, q5⟩ := hv
  have e1 : pts (L.gl.map (·.b)) ++ [pt nb] = pts ((L.gl ++ [gN]).map (·.b)) := by simp [pts, hgb]
  rw [e1] at q5 ⊢
  obtain ⟨S5, Q5, _, _⟩ := cl2 (cVS 135 a' c' (pts ((L.gl ++ [gN]).map (fun (x : GL) => x.b)))) hc o5 q5
  refine RUN.stl (Q5.blk 0 rfl) rfl (by simp [xC]) (fun w6 u6 => ?_)
  have Q6 := Q5.st 0 rfl u6
  replace Q6 : Rn w S w6 S5 (xP b { x with gs := x.gs ++ [⟨1, f, 0, 0, stk0 v⟩] } { L with ga := a', gc := c', gl := L.gl ++ [gN] }) := Q6
  refine RUN.ld (Q6.blk 0 rfl) rfl (rfl) ?_
  refine LEN.mk ((x.gs.length + 1 : Nat) : Int) (by simp [pts, hgl]) ?_
  refine ART.sub (by omega) (fun r hr => ?_)
  have hr' : r = (x.gs.length : Int) := by omega
  subst hr'
  exact hR _ _ ⟨rfl, ⟨gN, { L with ga := a', gc := c', gl := L.gl ++ [gN] }, ⟨by simp [hgl], hws, hos, hwl⟩, by rw [← hgp], Q6.fin⟩, Q6.cc⟩
theorem xnew_in {w : World} {U : Nat → Prop} {fa : Option Addr} {fc g : Nat} {fs : List (List In)} (h : FnAt w U fa fc fs) (hg : g ≤ 32) :
    Calls PP 84 #[.agg (progV g fs fa fc).toArray] w (fun e w' => ∃ b, e = .returned (pt b) ∧ XAt w' (Nw w U) b { xs0 g fs with gs := [⟨1, 0, 0, 0, stk0 0⟩] } ∧ Ch U w w') := by
  obtain ⟨S0, s0, Q0⟩ := Rn.start (Ps := [cFn fa fc fs]) (S := U) (w := w) ⟨fun _ => 0, fun i c hi => by
    rcases i with _ | i
    · simp only [List.getElem?_cons_zero, Option.some.injEq] at hi
      subst hi
      exact FnAt.fm.mono h fun y _ hy => ⟨hy, rfl⟩
    · simp at hi⟩
  refine calls_den (fn := Tryz.f84) (args := [_]) Tryz.func84 rfl (by simp) (fun R hR => ?_)
  refine RUN.box (fun b1 w1 n1 => ?_)
  have f1 := n1.here
  refine DRAW.q 4 [(0, .q), (1, .q), (2, .q), (3, .s)] (by kernel_rfl) (fun _ _ _ _ _ h => h) ?_
  refine RUNQ.lda (vs := progV g fs fa fc) f1 rfl (Nat.le_of_ble_eq_true rfl) rfl ?_
  refine RUNQ.ld f1 rfl (show _ = some (i64 g) from rfl) ?_
  intro w2 x2 y2
  refine RUN.mkslice (n := g) rfl rfl rfl rfl rfl rfl (by omega) rfl (fun bg w3 n3 => ?_)
  refine ⟨y2.trans' n3.ext, ?_⟩
  intro w4 x4
  obtain ⟨S3, Q3, _⟩ := ((Q0.ext n1.ext).ext y2).add (cVS 3 (some ⟨bg, 0, none⟩) g (ints (List.replicate g 0))) n3.ext (T := fun y => y = bg) (by
    rw [show ints (List.replicate g 0) = List.replicate g (i64 0) by simp [ints]]
    exact VS.made n3 (fun y => y = bg) rfl (by simp)) (by rintro y rfl; have := n3.blk; omega)
  have Q4 := Q3.ext x4
  refine RUN.box (fun b5 w5 n5 => ?_)
  have n5' : New w4 w5 b5 (B ([i64 g, .slice fa fs.length fc, nils, .slice (some ⟨bg, 0, none⟩) (List.replicate g (i64 0)).length g, nils, nils] ++ (List.replicate 32 noRw).map Rw.v ++ [i64 0]) 85) := n5
  rw [show (List.replicate g (i64 0)).length = (ints (List.replicate g 0)).length by simp [ints]] at n5'
  obtain ⟨S5, Q5, _⟩ := Q4.add1 n5'
  obtain ⟨S6, Q6, _⟩ := Q5.add (cVS 135 none 0 (pts [])) (Ext.refl _) (T := fun _ => False) (VS.nil _ _ _) (fun _ h => h.elim)
  obtain ⟨S7, Q7, _⟩ := Q6.add (cSide (cGs [] [])) (Ext.refl _) (T := fun _ => False) ⟨fun _ => 0, fun i c hi => by simp [cGs] at hi⟩ (fun _ h => h.elim)
  obtain ⟨S8, Q8, _⟩ := Q7.add (cMSl 244 2 none 0 (([] : List (Int × Nat)).map tiC)) (Ext.refl _) (T := fun _ => False) (MSl.nil _ _ _ _) (fun _ h => h.elim)
  obtain ⟨S9, Q9, _⟩ := Q8.add (cVS 37 none 0 (([] : List Rw).map Rw.v)) (Ext.refl _) (T := fun _ => False) (VS.nil _ _ _) (fun _ h => h.elim)
  obtain ⟨Sa, Qa, _⟩ := Q9.add (cSide (([] : List Rw).map cRw)) (Ext.refl _) (T := fun _ => False) ⟨fun _ => 0, fun i c hi => by simp at hi⟩ (fun _ h => h.elim)
  replace Qa : Rn w U w5 Sa [cFn fa fc fs, cVS 3 (some ⟨bg, 0, none⟩) g (ints (List.replicate g 0)), cAt b5 (B (xC (xs0 g fs) ⟨fa, none, some ⟨bg, 0, none⟩, none, none, fc, 0, g, 0, 0, [], [], List.replicate 32 noRw⟩) 85), cVS 135 none 0 (pts []), cSide (cGs [] []), cMSl 244 2 none 0 (([] : List (Int × Nat)).map tiC), cVS 37 none 0 (([] : List Rw).map Rw.v), cSide (([] : List Rw).map cRw)] := Qa
  have key : ∀ n : Nat, ∃ S', Rn w U w5 S' (([cFn fa fc fs, cVS 3 (some ⟨bg, 0, none⟩) g (ints (List.replicate g 0)), cAt b5 (B (xC (xs0 g fs) ⟨fa, none, some ⟨bg, 0, none⟩, none, none, fc, 0, g, 0, 0, [], [], List.replicate 32 noRw⟩) 85), cVS 135 none 0 (pts []), cSide (cGs [] []), cMSl 244 2 none 0 (([] : List (Int × Nat)).map tiC), cVS 37 none 0 (([] : List Rw).map Rw.v), cSide (([] : List Rw).map cRw)] : List Cmp) ++ List.replicate n (cRw noRw)) := by
    intro n
    induction n with
    | zero => exact ⟨Sa, by rw [List.replicate_zero, List.append_nil]; exact Qa⟩
    | succ n ih =>
      obtain ⟨S', h⟩ := ih
      obtain ⟨S'', h', _⟩ := h.add (cRw noRw) (Ext.refl _) (T := fun _ => False) (VS.nil _ _ _) (fun _ h => h.elim)
      refine ⟨S'', ?_⟩
      rw [show List.replicate (n + 1) (cRw noRw) = List.replicate n (cRw noRw) ++ [cRw noRw] from List.replicate_succ' .., ← List.append_assoc]
      exact h'
  obtain ⟨Sb, Qb⟩ := key 32
  have Qc : Rn w U w5 Sb (xP b5 (xs0 g fs) ⟨fa, none, some ⟨bg, 0, none⟩, none, none, fc, 0, g, 0, 0, [], [], List.replicate 32 noRw⟩) := by
    refine Qb.perm ([2, 0, 3, 4, 1, 5, 6, 7] ++ (List.range 32).map (· + 8)) (by simp [xP]) (by decide) ?_
    intro i c hc
    by_cases hi : i < 8
    · have : i = 0 ∨ i = 1 ∨ i = 2 ∨ i = 3 ∨ i = 4 ∨ i = 5 ∨ i = 6 ∨ i = 7 := by omega
      rcases this with rfl | rfl | rfl | rfl | rfl | rfl | rfl | rfl <;> exact hc
    · have hil := (List.getElem?_eq_some_iff.1 hc).1
      have hi40 : i < 40 := by simpa [xP] using hil
      have e : ([2, 0, 3, 4, 1, 5, 6, 7] ++ (List.range 32).map (· + 8) : List Nat).getD i 0 = i := by
        exact (by decide : ∀ i, i < 40 → ¬ i < 8 → ([2, 0, 3, 4, 1, 5, 6, 7] ++ (List.range 32).map (· + 8) : List Nat).getD i 0 = i) i hi40 hi
      rw [e]
      unfold xP at hc
      rw [List.getElem?_append_right (by simp; omega)] at hc ⊢
      simpa using hc
  clear Qa Q9 Q8 Q7 Q6 Q5 Q4 Q3 key Qb
  refine CALL.by (xspawn_in (v := 0) (f := 0) (⟨_, ⟨rfl, by simp [noRw, xs0], rfl, by simp [xs0]⟩, rfl, Qc.fin⟩ : XBt w5 (Nw w U) b5 (xs0 g fs) []) rfl (by simp [xs0])) rfl ?_
  rintro e w6 ⟨rfl, ⟨nb, q6⟩, c6⟩
  have z5 := Qc.cc.size
  refine hR _ _ ⟨b5, rfl, ⟨_, XBt.fm.mono q6 fun y _ hy => ?_⟩, Qc.cc.sub c6 (fun y hy => hy)⟩
  rcases hy with hy | hy
  · exact hy
  · exact .inr (by omega)
end Go.E
end
/- The reference's model: how it is read, how it turns. -/
set_option linter.unusedVariables false
set_option linter.unusedSimpArgs false
set_option maxRecDepth 10000
noncomputable section
namespace Go.E
open Go Go.Proofs

/-- A store turns one part. -/
theorem Side.upd1 {w w' : World} {S : Nat → Prop} {Ps : List Cmp} {c c' : Cmp} {b : Nat} {o : Obj} (h : Side w S Ps) (i : Nat) (hi : Ps[i]? = some c) (u : Upd w w' b o)
    (H : ∀ Si : Nat → Prop, (∀ y, Si y → S y) → c.P w Si → Si b ∧ c'.P w' Si) : S b ∧ Side w' S (Ps.set i c') := by
  obtain ⟨col, hs⟩ := h
  obtain ⟨h1, h2⟩ := H _ (fun y hy => hy.1) (hs i c hi)
  refine ⟨h1.1, col, fun j x hj => ?_⟩
  rcases set_get hj with ⟨rfl, rfl⟩ | ⟨hne, hj⟩
  · exact h2
  · exact x.fm.ch (hs j x hj) u.ch fun y hy hs' hh => hne (hs'.2.symm.trans (hh ▸ h1.2))
theorem Rn.upd1 {w0 w w' : World} {S0 S : Nat → Prop} {Ps : List Cmp} {c c' : Cmp} {b : Nat} {o : Obj} (Q : Rn w0 S0 w S Ps) (i : Nat) (hi : Ps[i]? = some c) (u : Upd w w' b o)
    (H : ∀ Si : Nat → Prop, (∀ y, Si y → S y) → c.P w Si → Si b ∧ c'.P w' Si) : Rn w0 S0 w' S (Ps.set i c') := by
  obtain ⟨h1, h2⟩ := Q.sd.upd1 i hi u H
  exact ⟨Q.cc.upd u (Q.oo b h1), Q.oo, fun y hy => by rw [u.size]; exact Q.bd y hy, h2⟩
theorem VS.upd {w w' : World} {S : Nat → Prop} {T c kb ko i : Nat} {a : Option Addr} {vs pre post : List Value} {v : Value} (h : VS w S T a c vs) (ha : a = some ⟨kb, ko, none⟩) (hk : At w kb (B (pre ++ vs ++ post) T)) (hp : pre.length = ko)
    (hi : i < vs.length) (u : Upd w w' kb (B ((pre ++ vs ++ post).set (ko + i * 1) v) T)) : S kb ∧ VS w' S T a c (vs.set i v) := by
  obtain ⟨b, o, pre', post', ha', h1, h2, h3, h4⟩ := h.open' (by omega)
  rw [ha] at ha'
  cases ha'
  have e := At.inj hk h2
  have e' : pre ++ vs ++ post = pre' ++ vs ++ post' := by
    unfold B at e
    injection e with e1 e2 e3
    exact List.toArray_inj e1
  refine ⟨h1, h4 w' i v ?_ hi⟩
  rw [← e']
  exact u.here
theorem getD_some {l : List Int} {i : Nat} (h : i < l.length) : l[i]? = some (l.getD i 0) := by
  rw [List.getD_eq_getElem?_getD, List.getElem?_eq_getElem h]; rfl
theorem set_self {α : Type} {l : List α} {i : Nat} {v : α} (h : l[i]? = some v) : l.set i v = l := by
  refine List.ext_getElem? fun j => ?_
  by_cases hj : j = i
  · subst hj
    rw [List.getElem?_set_self (List.getElem?_eq_some_iff.1 h).1, h]
  · rw [List.getElem?_set_ne (Ne.symm hj)]
theorem set_hit {α : Type} {l : List α} {i : Nat} {v u : α} (h : l[i]? = some v) : (l.set i u)[i]? = some u := List.getElem?_set_self (List.getElem?_eq_some_iff.1 h).1
/-- The first part aside. -/
theorem Rn.rot {w0 w : World} {S0 S : Nat → Prop} {A : Cmp} {Ps : List Cmp} (h : Rn w0 S0 w S (A :: Ps)) : Rn w0 S0 w S (Ps ++ [A]) := by
  refine h.pick (fun i => if i < Ps.length then i + 1 else 0) (fun j => if j = 0 then Ps.length else j - 1) (fun i c hi => ?_) fun i hi => ?_
  · by_cases hl : i < Ps.length
    · show (A :: Ps)[if i < Ps.length then i + 1 else 0]? = _
      rw [if_pos hl]
      rwa [List.getElem?_append_left hl] at hi
    · show (A :: Ps)[if i < Ps.length then i + 1 else 0]? = _
      have hil := (List.getElem?_eq_some_iff.1 hi).1
      simp at hil
      rw [if_neg hl]
      rw [List.getElem?_append_right (by omega), show i - Ps.length = 0 by omega] at hi
      exact hi
  · simp only [List.length_append, List.length_cons, List.length_nil] at hi
    by_cases hl : i < Ps.length
    · show (if (if i < Ps.length then i + 1 else 0) = 0 then Ps.length else (if i < Ps.length then i + 1 else 0) - 1) = i
      rw [if_pos hl, if_neg (by omega)]; omega
    · show (if (if i < Ps.length then i + 1 else 0) = 0 then Ps.length else (if i < Ps.length then i + 1 else 0) - 1) = i
      rw [if_neg hl, if_pos rfl]; omega
theorem Rn.unrot {w0 w : World} {S0 S : Nat → Prop} {A : Cmp} {Ps : List Cmp} (h : Rn w0 S0 w S (Ps ++ [A])) : Rn w0 S0 w S (A :: Ps) := by
  refine h.pick (fun i => if i = 0 then Ps.length else i - 1) (fun j => if j < Ps.length then j + 1 else 0) (fun i c hi => ?_) fun i hi => ?_
  · rcases i with _ | i
    · show (Ps ++ [A])[Ps.length]? = _
      rw [List.getElem?_append_right (Nat.le_refl _), Nat.sub_self]
      exact hi
    · have hi' : Ps[i]? = some c := by simpa using hi
      have hil := (List.getElem?_eq_some_iff.1 hi').1
      show (Ps ++ [A])[i + 1 - 1]? = _
      rw [Nat.add_sub_cancel, List.getElem?_append_left hil]
      exact hi'
  · rcases i with _ | i
    · show (if Ps.length < Ps.length then _ else 0) = 0
      rw [if_neg (by omega)]
    · simp only [List.length_cons] at hi
      show (if i + 1 - 1 < Ps.length then i + 1 - 1 + 1 else 0) = i + 1
      rw [if_pos (by omega)]; omega
theorem Rn.tl {w0 w : World} {S0 S : Nat → Prop} {A : Cmp} {Ps : List Cmp} (h : Rn w0 S0 w S (A :: Ps)) :
    ∃ Sm : Nat → Prop, (∀ y, Sm y → S y ∧ y < w.heap.size) ∧ Side w Sm Ps ∧ ∀ {w' : World} {Qs : List Cmp}, Qs.length = Ps.length → Ch Sm w w' → Side w' (Nw w Sm) Qs → ∃ S', Rn w0 S0 w' S' (A :: Qs) ∧ (∀ y, y < w.heap.size → ¬ S y → ¬ S' y) := by
  obtain ⟨Sm, h1, h2, h3⟩ := h.rot.split
  refine ⟨Sm, h1, h2, fun {w' Qs} hl hc hs => ?_⟩
  obtain ⟨S', h4, h5⟩ := h3 hl hc hs
  exact ⟨S', h4.unrot, h5⟩
/-- What the model keeps of objects. -/
def memO (objs : List (List Int)) (k : Int) : Option (List Int) := if 1 ≤ k then objs[(k - 1).toNat]? else none
def coreX (x : XS) : Core := ⟨x.gs, x.globals, x.waits, x.tim, x.clock, memO x.objs⟩
theorem memO_nil : memO [] = fun _ => none := by
  funext k
  unfold memO
  split <;> simp
/-- The model and a commit beside it. -/
def YAt (w : World) (S : Nat → Prop) (b : Nat) (x : XS) (cb : Nat) (cm : Cmt) (gp : List GL) : Prop := ∃ L : XL, XLok x L ∧ L.gl = gp ∧ Side w S (cAt cb (B (cmC cm) 53) :: xP b x L)
theorem YAt.fm {b cb : Nat} {x : XS} {cm : Cmt} {gp : List GL} : Fm (fun w S => YAt w S b x cb cm gp) := by
  rintro w w' S S' ⟨L, h1, h2, h⟩ hf
  exact ⟨L, h1, h2, Side.fm w w' S S' h hf⟩
def cYa (b : Nat) (x : XS) (cb : Nat) (cm : Cmt) (gp : List GL) : Cmp := ⟨fun w S => YAt w S b x cb cm gp, YAt.fm⟩
def cXb (b : Nat) (x : XS) (gp : List GL) : Cmp := ⟨fun w S => XBt w S b x gp, XBt.fm⟩
theorem YAt.of {w : World} {A : Nat → Prop} {b cb : Nat} {x : XS} {cm : Cmt} {gp : List GL} (h : XBt w A b x gp) (hc : At w cb (B (cmC cm) 53)) (hn : ¬ A cb) : YAt w (fun y => A y ∨ y = cb) b x cb cm gp := by
  obtain ⟨L, hL, hgp, col, hs⟩ := h
  refine ⟨L, hL, hgp, fun y => if y = cb then 0 else col y + 1, fun i c hi => ?_⟩
  rcases i with _ | i
  · simp only [List.getElem?_cons_zero, Option.some.injEq] at hi
    subst hi
    exact ⟨⟨.inr rfl, if_pos rfl⟩, hc⟩
  · simp only [List.getElem?_cons_succ] at hi
    exact c.fm.mono (hs i c hi) fun y _ hy => ⟨.inl hy.1, by
      show (if y = cb then 0 else col y + 1) = i + 1
      rw [if_neg (by rintro rfl; exact hn hy.1), hy.2]⟩
theorem YAt.x {w : World} {S : Nat → Prop} {b cb : Nat} {x : XS} {cm : Cmt} {gp : List GL} (h : YAt w S b x cb cm gp) : XBt w S b x gp := by
  obtain ⟨L, hL, hgp, col, hs⟩ := h
  refine ⟨L, hL, hgp, fun y => col y - 1, fun i c hi => c.fm.mono (hs (i + 1) c (by simpa using hi)) fun y _ hy => ⟨hy.1, by show col y - 1 = i; omega⟩⟩
theorem YAt.c {w : World} {S : Nat → Prop} {b cb : Nat} {x : XS} {cm : Cmt} {gp : List GL} (h : YAt w S b x cb cm gp) : At w cb (B (cmC cm) 53) := by
  obtain ⟨L, _, _, h⟩ := h
  exact (h.get 0 rfl).2
/-- A part that says nothing. -/
def cTr : Cmp := ⟨fun _ _ => True, fun _ _ _ _ _ _ => trivial⟩
theorem Side.triv {w : World} {S : Nat → Prop} {Ps : List Cmp} (h : Side w S Ps) : Side w S (cTr :: Ps) := by
  obtain ⟨col, hs⟩ := h
  refine ⟨fun y => col y + 1, fun i c hi => ?_⟩
  rcases i with _ | i
  · simp only [List.getElem?_cons_zero, Option.some.injEq] at hi
    subst hi
    trivial
  · exact c.fm.mono (hs i c (by simpa using hi)) fun y _ hy => ⟨hy.1, by show col y + 1 = i + 1; rw [hy.2]⟩
section
variable {w0 w w' : World} {S0 S : Nat → Prop} {b g : Nat} {x : XS} {L : XL} {A : Cmp} {z : CG} {Lg : GL}
/-- A goroutine of the model. -/
theorem Side.xgo (Q : Side w S (A :: xP b x L)) (hL : XLok x L) (hz : x.gs[g]? = some z) :
    ∃ Lg, L.gl[g]? = some Lg ∧ (L.gl.map (·.b))[g]? = some Lg.b ∧ S Lg.b ∧ At w Lg.b (B (cgC Lg z) 134) ∧ VS w S 3 Lg.a Lg.c (ints z.stack) := by
  have hg := (List.getElem?_eq_some_iff.1 hz).1
  have hl : L.gl[g]? = some (L.gl[g]'(by rw [hL.gl]; exact hg)) := List.getElem?_eq_getElem _
  have h4 : Side w S (cGs L.gl x.gs) := Q.get 4 rfl
  have hG : Side w S [cAt _ _, cVS 3 _ _ _] := h4.get g (cGs_get hl hz)
  exact ⟨_, hl, by simp [hl], (hG.get 0 rfl).1, (hG.get 0 rfl).2, hG.get 1 rfl⟩
theorem Rn.xrec (Q : Rn w0 S0 w S (A :: xP b x L)) (hL : XLok x L) (hl : L.gl[g]? = some Lg) (hz : x.gs[g]? = some z) {z' : CG} (hs : z'.stack = z.stack) (u : Upd w w' Lg.b (B (cgC Lg z') 134)) :
    Rn w0 S0 w' S (A :: xP b { x with gs := x.gs.set g z' } L) := by
  have h := Q.upd1 4 rfl u (c' := cSide (cGs L.gl (x.gs.set g z'))) (fun Si si hP => by
    have h1 : Side w Si (cGs L.gl x.gs) := hP
    have h2 := h1.upd1 g (cGs_get hl hz) u (c' := cG Lg z') (fun Sg sg hG => by
      have h3 : Side w Sg [cAt Lg.b (B (cgC Lg z) 134), cVS 3 Lg.a Lg.c (ints z.stack)] := hG
      have h4 := h3.upd1 0 rfl u (c' := cAt Lg.b (B (cgC Lg z') 134)) (fun Sb sb hb => ⟨hb.1, hb.1, u.here⟩)
      refine ⟨h4.1, ?_⟩
      show Side w' Sg [cAt Lg.b (B (cgC Lg z') 134), cVS 3 Lg.a Lg.c (ints z'.stack)]
      rw [hs]
      exact h4.2)
    rw [cGs_set hL.gl hl] at h2
    exact h2)
  exact h
theorem Rn.xstk (Q : Rn w0 S0 w S (A :: xP b x L)) (hL : XLok x L) (hl : L.gl[g]? = some Lg) (hz : x.gs[g]? = some z) {kb ko i : Nat} {pre post : List Value} {v : Int} (ha : Lg.a = some ⟨kb, ko, none⟩) (hk : At w kb (B (pre ++ ints z.stack ++ post) 3)) (hp : pre.length = ko)
    (hi : i < z.stack.length) (u : Upd w w' kb (B ((pre ++ ints z.stack ++ post).set (ko + i * 1) (i64 v)) 3)) :
    Rn w0 S0 w' S (A :: xP b { x with gs := x.gs.set g { z with stack := z.stack.set i v } } L) := by
  have h := Q.upd1 4 rfl u (c' := cSide (cGs L.gl (x.gs.set g { z with stack := z.stack.set i v }))) (fun Si si hP => by
    have h1 : Side w Si (cGs L.gl x.gs) := hP
    have h2 := h1.upd1 g (cGs_get hl hz) u (c' := cG Lg { z with stack := z.stack.set i v }) (fun Sg sg hG => by
      have h3 : Side w Sg [cAt Lg.b (B (cgC Lg z) 134), cVS 3 Lg.a Lg.c (ints z.stack)] := hG
      have h4 := h3.upd1 1 rfl u (c' := cVS 3 Lg.a Lg.c ((ints z.stack).set i (i64 v))) (fun Sb sb hb => VS.upd hb ha hk hp (by simpa [ints] using hi) u)
      refine ⟨h4.1, ?_⟩
      have h5 := h4.2
      rw [ints_set] at h5
      show Side w' Sg [cAt Lg.b (B (cgC Lg { z with stack := z.stack.set i v }) 134), cVS 3 Lg.a Lg.c (ints (z.stack.set i v))]
      have e : cgC Lg { z with stack := z.stack.set i v } = cgC Lg z := by simp [cgC, ints]
      rw [e]
      exact h5)
    rw [cGs_set hL.gl hl] at h2
    exact h2)
  exact h
theorem xC_gs {a : Addr} (h : L.ga = some a) : (xC x L)[2]? = some (.slice (some a) (pts (L.gl.map (·.b))).length L.gc) := by rw [← h]; rfl
theorem xC_gl {a : Addr} (h : L.la = some a) : (xC x L)[3]? = some (.slice (some a) (ints x.globals).length L.lc) := by rw [← h]; rfl
theorem xC_fs {a : Addr} (h : L.fa = some a) : (xC x L)[1]? = some (.slice (some a) x.fs.length L.fc) := by rw [← h]; rfl
theorem xC_os {a : Addr} (h : L.oa = some a) : (xC x L)[4]? = some (.slice (some a) (L.os.map Rw.v).length L.oc) := by rw [← h]; rfl
theorem xC_ws {k : Nat} {r : Rw} (h : L.ws[k]? = some r) : (xC x L)[6 + k * 1]? = some r.v := by
  unfold xC
  have hk := (List.getElem?_eq_some_iff.1 h).1
  rw [List.getElem?_append_left (by simp; omega), List.getElem?_append_right (by simp)]
  simp [h]
theorem xC_wlen (hL : XLok x L) : (xC x L).length = 39 := by
  have h : L.ws.length = 32 := by rw [← hL.wl, ← hL.ws]; simp
  simp [xC, h]
theorem xP_setw {k : Nat} {r : Rw} (hk : k < L.ws.length) : ((A :: xP b x L).set (9 + k) (cRw r)).set 1 (cAt b (B ((xC x L).set (6 + k * 1) r.v) 85)) = A :: xP b { x with waits := x.waits.set k r.l } { L with ws := L.ws.set k r } := by
  have e : (xC x L).set (6 + k * 1) r.v = xC { x with waits := x.waits.set k r.l } { L with ws := L.ws.set k r } := by
    unfold xC
    rw [List.set_append_left _ _ (by simp; omega), List.set_append_right _ _ (by simp)]
    simp [List.map_set]
  rw [e]
  unfold xP
  rw [show 9 + k = (8 + k) + 1 by omega, List.set_cons_succ, List.set_append_right _ _ (by simp)]
  simp [List.map_set]
theorem cgC_st {a : Addr} (h : Lg.a = some a) : (cgC Lg z)[4]? = some (.slice (some a) (ints z.stack).length Lg.c) := by rw [← h]; rfl
end
/-- An object's slots. -/
theorem xslots_some {w : World} {S : Nat → Prop} {b k : Nat} {x : XS} {L : XL} {A : Cmp} {r : Rw} {id : Int} (Q : Side w S (A :: xP b x L)) (hr : L.os[k]? = some r) (hid : id = k + 1) (hkb : L.os.length ≤ 2 ^ 40) : Calls PP 81 #[pt b, i64 id] w (Pure w r.v) := by
  have hkl := (List.getElem?_eq_some_iff.1 hr).1
  obtain ⟨sb, so, pre, post, ha, h0, h1, h2⟩ := VS.open (Q.get 7 rfl : VS w S 37 L.oa L.oc (L.os.map Rw.v)) (by simp; omega)
  refine calls_den (fn := Tryz.f81) (args := [_, _]) Tryz.func81 rfl (by simp) (fun R hR => ?_)
  refine CLt.no (by omega) ?_
  refine RUN.ld (Q.blk 1 rfl) rfl (rfl) ?_
  refine LEN.mk ((L.os.length : Int)) (by first | rfl | simp [ints] | (simp [ints]; omega)) ?_
  refine CLt.no (by omega) ?_
  refine RUN.ld (Q.blk 1 rfl) rfl ((xC_os ha)) ?_
  refine ART.sub (by omega) (fun r1 g1 => ?_)
  refine BD.mk (so + k * 1) ⟨by omega, by simp; omega, by omega⟩ ?_
  refine RUN.ld (v := r.v) h1 rfl (app_get h2 (by simp [hr]) rfl) ?_
  exact hR _ _ ⟨rfl, Ext.refl w⟩
theorem xslots_none {w : World} {S : Nat → Prop} {b : Nat} {x : XS} {L : XL} {A : Cmp} {id : Int} (Q : Side w S (A :: xP b x L)) (hid : id < 1 ∨ (L.os.length : Int) < id) : Calls PP 81 #[pt b, i64 id] w (Pure w nils) := by
  refine calls_den (fn := Tryz.f81) (args := [_, _]) Tryz.func81 rfl (by simp) (fun R hR => ?_)
  by_cases h1 : id < 1
  · refine CLt.yes (h1) ?_
    exact hR _ _ ⟨rfl, Ext.refl w⟩
  · refine CLt.no (h1) ?_
    refine RUN.ld (Q.blk 1 rfl) rfl (rfl) ?_
    refine LEN.mk ((L.os.length : Int)) (by first | rfl | simp [ints] | (simp [ints]; omega)) ?_
    refine CLt.yes (by omega) ?_
    exact hR _ _ ⟨rfl, Ext.refl w⟩
end Go.E
end
