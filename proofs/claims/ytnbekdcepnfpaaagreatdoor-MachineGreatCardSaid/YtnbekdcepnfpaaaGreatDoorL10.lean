/- A law's machine and model side by side. -/
import Derived.Test.YtnbekdcepnfpaaaGreatDoorG30
import Derived.Test.YtnbekdcepnfpaaaGreatDoorG28
set_option linter.unusedVariables false
set_option linter.unusedSimpArgs false
set_option maxRecDepth 10000
noncomputable section
namespace Go.E
open Go Go.Proofs

def cMa (b : Nat) (σ : MS) : Cmp := ⟨fun w S => MAt w S b σ, MAt.fm⟩
def cXa (b : Nat) (x : XS) : Cmp := ⟨fun w S => XAt w S b x, XAt.fm⟩
/-- What was seen. -/
structure VW where
  (a0 a1 a2 a3 a4 a5 a6 a7 a8 : Value)
def VW.l (v : VW) : List Value := [v.a0, v.a1, v.a2, v.a3, v.a4, v.a5, v.a6, v.a7, v.a8]
/-- What a law's machine has besides. -/
structure WS where
  (ps words : Int)
  (f1 f2 : Nat)
  addr : List Int
  keep : Bool
  was : VW
  ph : Int
  (cp cv : Int)
  cpre : Bool
  ctick : Int
def wC (mb xb : Nat) (aa : Option Addr) (ac : Nat) (V : WS) : List Value :=
  [pt mb, pt xb, i64 V.ps, i64 V.words, .float .f64 V.f1, .float .f64 V.f2, .slice aa (ints V.addr).length ac, .bool V.keep, V.was.a0, V.was.a1, V.was.a2, V.was.a3, V.was.a4, V.was.a5, V.was.a6, V.was.a7, V.was.a8, i64 V.ph, i64 V.cp, i64 V.cv, .bool V.cpre, i64 V.ctick]
def wP (wb mb xb : Nat) (aa : Option Addr) (ac : Nat) (σ : MS) (x : XS) (V : WS) : List Cmp := [cAt wb (B (wC mb xb aa ac V) 45), cMa mb σ, cXa xb x, cVS 3 aa ac (ints V.addr)]
def WAt (w : World) (S : Nat → Prop) (wb : Nat) (σ : MS) (x : XS) (V : WS) : Prop := ∃ mb xb aa ac, Side w S (wP wb mb xb aa ac σ x V)
theorem WAt.fm {wb : Nat} {σ : MS} {x : XS} {V : WS} : Fm (fun w S => WAt w S wb σ x V) := by
  rintro w w' S S' ⟨mb, xb, aa, ac, h⟩ hf
  exact ⟨mb, xb, aa, ac, Side.fm w w' S S' h hf⟩
def view0 : VW := ⟨i64 0, i64 0, i64 0, nils, nils, nils, i64 0, i64 0, i64 0⟩
def cfgV (ps words : Int) (f1 f2 : Nat) : List Value := [i64 ps, i64 words, .float .f64 f1, .float .f64 f2]
def ws0 (ps words : Int) (f1 f2 : Nat) : WS := ⟨ps, words, f1, f2, [0], false, view0, 0, 0, 0, false, 0⟩
/-- A program that both let be. -/
structure GoodP (g : Nat) (fs : List (List In)) : Prop where
  ok : okP g fs
  okr : okRP g fs
  by' : ∀ l ∈ fs, ∀ i ∈ l, byI i
def σ0 (g : Nat) (fs : List (List In)) (bs : List Nat) (words n pct : Int) (f1 f2 : Nat) : MS := spawnF (ms0 g fs bs words n pct f1 f2) 0 0 0
def x0 (g : Nat) (fs : List (List In)) : XS := { xs0 g fs with gs := [⟨1, 0, 0, 0, stk0 0⟩] }
theorem encP_by {g : Nat} {fs : List (List In)} (h : GoodP g fs) : ∀ v ∈ encP g fs, v < 256 := by
  intro v hv
  have h1 := h.ok.1
  have h2 := h.ok.2.2.1
  unfold encP at hv
  simp only [List.mem_cons] at hv
  rcases hv with rfl | rfl | hv
  · omega
  · omega
  · obtain ⟨l, hl, hv⟩ := List.mem_flatten.1 hv
    obtain ⟨k, hk, rfl⟩ := List.mem_map.1 hl
    unfold encF at hv
    simp only [List.mem_cons] at hv
    rcases hv with rfl | hv
    · have := (h.ok.2.2.2 k hk).2.1
      omega
    · obtain ⟨l, hl, hv⟩ := List.mem_flatten.1 hv
      obtain ⟨i, hi, rfl⟩ := List.mem_map.1 hl
      obtain ⟨y0, y1, y2, y3⟩ := h.by' k hk i hi
      unfold encI at hv
      simp only [List.mem_cons, List.not_mem_nil, or_false] at hv
      rcases hv with rfl | rfl | rfl | rfl <;> assumption
theorem fresh_in {w : World} {U : Nat → Prop} {fa : Option Addr} {fc g : Nat} {fs : List (List In)} {ps words n : Int} {f1 f2 : Nat} (h : FnAt w U fa fc fs) (hp : GoodP g fs) (hps : 1 ≤ ps ∧ ps ≤ 64) (hw : 256 ≤ words ∧ words < 8388544) (hn : words = 64 * n) :
    Calls PP 49 #[.agg (cfgV ps words f1 f2).toArray, .agg (progV g fs fa fc).toArray] w
      (fun e w' => ∃ wb bs pct, e = .returned (pt wb) ∧ (bs.length : Int) = ps ∧ WAt w' (Nw w U) wb (σ0 g fs bs words n pct f1 f2) (x0 g fs) (ws0 ps words f1 f2) ∧ Ch U w w') := by
  obtain ⟨S0, s0, Q0⟩ := Rn.start (Ps := [cFn fa fc fs]) (S := U) (w := w) ⟨fun _ => 0, fun i c hi => by
    rcases i with _ | i
    · simp only [List.getElem?_cons_zero, Option.some.injEq] at hi
      subst hi
      exact FnAt.fm.mono h fun y _ hy => ⟨hy, rfl⟩
    · simp at hi⟩
  refine calls_den (fn := Tryz.f49) (args := [_, _]) Tryz.func49 rfl (by simp) (fun R hR => ?_)
  refine RUN.box (fun b2 w1 n1 => ?_)
  refine RUN.box (fun b3 w2 n2 => ?_)
  obtain ⟨S1, Q1, _⟩ := Q0.add1 n1
  obtain ⟨S2, Q2, _⟩ := Q1.add1 n2
  refine RUN.lda (vs := progV g fs fa fc) (Q2.blk 2 rfl) rfl (Nat.le_of_ble_eq_true rfl) rfl ?_
  refine CALL.by (encode_in ((Q2.get 0 rfl : FnAt w2 S2 fa fc fs)) hp.okr hp.by') rfl ?_
  rintro e w3 ⟨rfl, x3⟩
  have Q3 := Q2.ext x3
  refine RUN.lda (vs := cfgV ps words f1 f2) (Q3.blk 1 rfl) rfl (Nat.le_of_ble_eq_true rfl) rfl ?_
  refine RUN.toBytes (encP_by hp) (fun bb c w4 hbs hbb x4 => ?_)
  refine CALL.by (mnew_ok (n := n) hbs hp.ok hps hw hn) rfl ?_
  rintro e w5 ⟨mb, bs, pct, rfl, m5, hbl, x5⟩
  obtain ⟨S5, Q5, _⟩ := (Q3.ext x4).add (cMa mb (σ0 g fs bs words n pct f1 f2)) x5 m5 (fun y hy => hy)
  replace Q5 : Rn w U w5 S5 [cFn fa fc fs, cAt b2 (B (cfgV ps words f1 f2) 24), cAt b3 (B (progV g fs fa fc) 30), cMa mb (σ0 g fs bs words n pct f1 f2)] := Q5
  clear Q0 Q1 Q2 Q3
  refine CEq.yes (rfl) ?_
  have fin : ∀ {w' : World} {S' : Nat → Prop} {xb bs' wb : Nat}, Rn w U w' S' [cXa xb (x0 g fs), cAt b2 (B (cfgV ps words f1 f2) 24), cAt b3 (B (progV g fs fa fc) 30), cMa mb (σ0 g fs bs words n pct f1 f2), cVS 3 (some ⟨bs', 0, none⟩) 1 (ints [0]), cAt wb (B (wC mb xb (some ⟨bs', 0, none⟩) 1 (ws0 ps words f1 f2)) 45)] →
      ∃ wb' bs'' pct', (Ending.returned (pt wb) : Ending) = .returned (pt wb') ∧ ((bs''.length : Nat) : Int) = ps ∧ WAt w' (Nw w U) wb' (σ0 g fs bs'' words n pct' f1 f2) (x0 g fs) (ws0 ps words f1 f2) ∧ Ch U w w' := by
    intro w' S' xb bs' wb R
    refine ⟨wb, bs, pct, rfl, hbl, ⟨mb, xb, _, _, (R.perm (Qs := wP wb mb xb (some ⟨bs', 0, none⟩) 1 (σ0 g fs bs words n pct f1 f2) (x0 g fs) (ws0 ps words f1 f2)) [5, 3, 0, 4] rfl (by decide) (by rintro (_ | _ | _ | _ | i) c hc <;> first | exact hc | (simp [wP] at hc))).fin⟩, R.cc⟩
  refine DRAW.tk 5 (.q 0 (.q 1 (.q 3 (.b 2 4 (.s 4 .nil) (.s 2 .nil))))) [b2, b3] (by kernel_rfl) (fun _ _ _ _ _ h => h) ?_
  refine RUNQ.klda (vs := progV g fs fa fc) (Q5.blk 2 rfl) (by simp) rfl (Nat.le_of_ble_eq_true rfl) rfl ?_
  refine RUNQ.klda (vs := cfgV ps words f1 f2) (Q5.blk 1 rfl) (by simp) rfl (Nat.le_of_ble_eq_true rfl) rfl ?_
  refine ⟨?_, ?_⟩
  · intro v1 y1 t1
    obtain ⟨Si, si, hn', hP, cl⟩ := (Q5.ext y1).stepN 0 rfl
    refine CALL.by (xnew_in hP hp.ok.1) rfl ?_
    rintro e v2 ⟨xb, rfl, q2, c2⟩
    obtain ⟨S6, P2⟩ := cl (cXa xb (x0 g fs)) c2 (Nw.own _ _) q2
    refine ⟨Keep.ch t1 c2 (fun y hy _ hh => ?_), ?_⟩
    · simp only [List.mem_cons, List.not_mem_nil, or_false] at hy
      rcases hy with rfl | rfl
      · exact hn' 1 _ _ rfl (by decide) hh
      · exact hn' 2 _ _ rfl (by decide) hh
    intro v3 y3 t3
    refine RUN.buildSlice rfl rfl rfl rfl rfl rfl rfl (fun sb v4 n4 => ?_)
    refine ⟨Keep.ext _ _ _ _ t3 n4.ext, ?_⟩
    intro v5 y5
    refine RUN.box (fun wb v6 n6 => ?_)
    obtain ⟨S7, P3, _⟩ := (P2.ext y3).add (cVS 3 (some ⟨sb, 0, none⟩) 1 (ints [0])) n4.ext (T := fun y => y = sb) (VS.of_new n4 _ rfl) (by rintro y rfl; have := n4.blk; omega)
    obtain ⟨S8, P4, _⟩ := (P3.ext y5).add1 n6
    exact hR _ _ (fin P4)
  · intro v1 y1 t1
    refine RUN.buildSlice rfl rfl rfl rfl rfl rfl rfl (fun sb v2 n2' => ?_)
    refine ⟨Keep.ext _ _ _ _ t1 n2'.ext, ?_⟩
    obtain ⟨S6, P2, _⟩ := (Q5.ext y1).add (cVS 3 (some ⟨sb, 0, none⟩) 1 (ints [0])) n2'.ext (T := fun y => y = sb) (VS.of_new n2' _ rfl) (by rintro y rfl; have := n2'.blk; omega)
    intro v3 y3 t3
    obtain ⟨Si, si, hn', hP, cl⟩ := (P2.ext y3).stepN 0 rfl
    refine CALL.by (xnew_in hP hp.ok.1) rfl ?_
    rintro e v4 ⟨xb, rfl, q4, c4⟩
    obtain ⟨S7, P3⟩ := cl (cXa xb (x0 g fs)) c4 (Nw.own _ _) q4
    refine ⟨Keep.ch t3 c4 (fun y hy _ hh => ?_), ?_⟩
    · simp only [List.mem_cons, List.not_mem_nil, or_false] at hy
      rcases hy with rfl | rfl
      · exact hn' 1 _ _ rfl (by decide) hh
      · exact hn' 2 _ _ rfl (by decide) hh
    intro v5 y5
    refine RUN.box (fun wb v6 n6 => ?_)
    obtain ⟨S8, P4, _⟩ := (P3.ext y5).add1 n6
    exact hR _ _ (fin P4)
theorem one_in {w : World} {g : Int} {fa : Option Addr} {n fc : Nat} : Calls PP 20 #[i64 g, .slice fa n fc] w (Pure w (.agg #[i64 g, .slice fa n fc])) := by
  refine calls_den (fn := Tryz.f20) (args := [_, _]) Tryz.func20 rfl (by simp) (fun R hR => ?_)
  refine RUN.alloc rfl rfl (fun b4 w1 n1 => ?_)
  refine RUN.sta (vs := [i64 g, .slice fa n fc]) n1.here rfl (by simp) (by simp [Value.oneCell']) (fun w2 u2 => ?_)
  refine RUN.lda (vs := [i64 g, .slice fa n fc]) u2.here rfl (Nat.le_of_ble_eq_true rfl) rfl ?_
  exact ⟨rfl, hR _ _ ⟨rfl, n1.ext.trans u2.ch (fun y hy hb => by have := n1.blk; omega)⟩⟩
theorem new_in {w : World} {U : Nat → Prop} {fa : Option Addr} {fc g : Nat} {fs : List (List In)} {ps words : Int} {f1 f2 : Nat} (h : FnAt w U fa fc fs) (hp : GoodP g fs) :
    Calls PP 19 #[.agg (cfgV ps words f1 f2).toArray, .agg (progV g fs fa fc).toArray] w
      (fun e w' => ∃ wb bs pct n, e = .returned (pt wb) ∧ fitWords words = 64 * n ∧ 4 ≤ n ∧ n ≤ 19 ∧ 1 ≤ fitPs ps ∧ fitPs ps ≤ 6 ∧ (bs.length : Int) = fitPs ps ∧ WAt w' (Nw w U) wb (σ0 g fs bs (fitWords words) n pct f1 f2) (x0 g fs) (ws0 (fitPs ps) (fitWords words) f1 f2) ∧ Ch U w w') := by
  obtain ⟨⟨hp1, hp2⟩, n, hn, hn1, hn2⟩ := fit_bd ps words
  refine calls_den (fn := Tryz.f19) (args := [_, _]) Tryz.func19 rfl (by simp) (fun R hR => ?_)
  refine RUN.box (fun b2 w1 n1 => ?_)
  refine RUN.box (fun b3 w2 n2 => ?_)
  have x02 := n1.ext.trans' n2.ext
  refine RUN.lda (vs := progV g fs fa fc) n2.here rfl (Nat.le_of_ble_eq_true rfl) rfl ?_
  refine CALL.by (great_no (FnAt.fm.ext h x02) hp.okr) rfl ?_
  rintro e w3 ⟨rfl, x3⟩
  refine RUN.lda (vs := progV g fs fa fc) (x3.at n2.here) rfl (Nat.le_of_ble_eq_true rfl) rfl ?_
  refine CALL.by (rmay_ok (FnAt.fm.ext h (x02.trans' x3)) hp.okr) rfl ?_
  rintro e w4 ⟨rfl, x4⟩
  refine CEq.yes (rfl) ?_
  have g2 := x4.at (x3.at (n2.at n1.here))
  have g3 := x4.at (x3.at n2.here)
  refine DRAW.q 3 (qs 3 0) (by kernel_rfl) (fun _ _ _ _ _ h => h) ?_
  refine RUNQ.lda (vs := cfgV ps words f1 f2) g2 rfl (Nat.le_of_ble_eq_true rfl) rfl ?_
  refine CALLQ.mk _ rfl (fun w' hs => fit_in ps words f1 f2 w') ?_
  refine RUNQ.lda (vs := progV g fs fa fc) g3 rfl (Nat.le_of_ble_eq_true rfl) rfl ?_
  intro w5 x5
  have x05 := ((x02.trans' x3).trans' x4).trans' x5
  refine CALL.by (fresh_in (n := n) (FnAt.fm.ext h x05) hp (by omega) (by omega) hn) rfl ?_
  rintro e w6 ⟨wb, bs, pct, rfl, hbl, q6, c6⟩
  have z := x05.size
  refine hR _ _ ⟨wb, bs, pct, n, rfl, hn, hn1, hn2, hp1, hp2, hbl, WAt.fm.mono q6 fun y _ hy => hy.imp id (fun h => by omega), (Ch.toS x05).sub c6 (fun y hy => .inl hy)⟩
end Go.E
end
