/- Scripts are read. -/
import Derived.Test.YtnbekdcepnfpaaaGreatDoorG15
set_option linter.unusedVariables false
set_option linter.unusedSimpArgs false
set_option maxRecDepth 10000
noncomputable section
namespace Go.E
open Go Go.Proofs

def u8 (n : Nat) : Value := .int .u8 (n : Int)
def u8s (l : List Nat) : List Value := l.map u8
theorem u8s_len (l : List Nat) : (u8s l).length = l.length := by simp [u8s]
theorem u8s_get {l : List Nat} {i x : Nat} (h : l[i]? = some x) : (u8s l)[i]? = some (u8 x) := by simp [u8s, h]
def badV (at_ : Int) : PanicEntry := { v := .iface 222 (.agg #[i64 at_]), recovered := false }
/-- What may stand in a part. -/
def mostZ (g n s : Int) : Nat → Int
  | 0 => 1
  | 1 => 256
  | 2 => 16
  | 3 => g
  | 4 => n
  | 5 => s
  | 6 => 32
  | _ => 0
def fitZ (g n s : Int) (part : Nat) (v : Int) : Bool := decide (0 ≤ v ∧ v < mostZ g n s part)
theorem fits_in {g n s x v : Int} {part : Nat} (hx : x = part) (hp : part < 7) (w : World) : Calls PP 277 #[.agg #[i64 g, i64 n, i64 s], i64 x, i64 v] w (Pure w (.bool (fitZ g n s part v))) := by
  refine calls_den (fn := Tryz.f277) (args := [_, _, _]) Tryz.func277 rfl (by simp) (fun R hR => ?_)
  refine RUN.box (fun b1 w1 n1 => ?_)
  refine RUN.makeMap (fun m w2 n2 => ?_)
  have hm : At w2 m (.map (([] : List Me).map meE).toArray 0) := n2.here
  have d2 : b1 ≠ m := n2.ne n1.here
  have f2 := n2.at n1.here
  refine RUN.mins hm (e := 3) rfl (fun w3 u3 => ?_)
  refine RUN.mins u3.here (e := 3) rfl (fun w4 u4 => ?_)
  refine RUN.mins u4.here (e := 3) rfl (fun w5 u5 => ?_)
  have f5 := u5.at (u4.at (u3.at f2 d2) d2) d2
  refine RUN.ld f5 rfl (rfl) ?_
  refine RUN.mins u5.here (e := 3) rfl (fun w6 u6 => ?_)
  have f6 := u6.at f5 d2
  refine RUN.ld f6 rfl (rfl) ?_
  refine RUN.mins u6.here (e := 3) rfl (fun w7 u7 => ?_)
  have f7 := u7.at f6 d2
  refine RUN.ld f7 rfl (rfl) ?_
  refine RUN.mins u7.here (e := 3) rfl (fun w8 u8 => ?_)
  refine RUN.mins u8.here (e := 3) rfl (fun w9 u9 => ?_)
  have c9 : Ext w w9 := by
    have h1 := n1.blk
    have h2 := n2.blk
    have z1 := n1.ext.size
    exact (n1.ext.trans' n2.ext).trans (((((((u3.ch.trans' u4.ch).trans' u5.ch).trans' u6.ch).trans' u7.ch).trans' u8.ch).trans' u9.ch)) (fun y hy hb => by omega)
  subst hx
  refine RUN.look u9.here (e := 3) rfl rfl rfl (v := i64 (mostZ g n s part)) ?_ ?_
  · have : part = 0 ∨ part = 1 ∨ part = 2 ∨ part = 3 ∨ part = 4 ∨ part = 5 ∨ part = 6 := by omega
    rcases this with rfl | rfl | rfl | rfl | rfl | rfl | rfl <;> rfl
  by_cases h0 : v < 0
  · refine CLt.yes (by omega) ?_
    refine hR _ _ ⟨?_, c9⟩
    unfold fitZ
    rw [decide_eq_false (by omega)]; rfl
  · refine CLt.no (by omega) ?_
    by_cases h1 : v < mostZ g n s part
    · refine CLt.yes (h1) ?_
      refine hR _ _ ⟨?_, c9⟩
      unfold fitZ
      rw [decide_eq_true (by omega)]; rfl
    · refine CLt.no (h1) ?_
      refine hR _ _ ⟨?_, c9⟩
      unfold fitZ
      rw [decide_eq_false (by omega)]; rfl

def ptsL : List Int := [0, 0, 0, 2, 1, 0, 2, 2, 1, 2, 1, 2, 2, 2, 0, 2, 0, 0, 2, 3, 0, 3, 2, 0, 4, 2, 0, 0, 0, 0, 0, 1, 1, 6, 0, 0, 6, 0, 0, 2, 2, 0, 5, 0, 0, 2, 2, 5, 1, 1, 0, 5, 0, 0]
/-- What stands in an instruction's part. -/
def ptZ (op j : Nat) : Nat := (ptsL.getD (op * 3 + j) 0).toNat
theorem ptsL_row {op : Nat} (h : op < 18) : ((ints ptsL).drop (op * 3)).take 3 = [i64 (ptZ op 0 : Nat), i64 (ptZ op 1 : Nat), i64 (ptZ op 2 : Nat)] ∧ ptZ op 0 < 7 ∧ ptZ op 1 < 7 ∧ ptZ op 2 < 7 := by
  have key : ∀ op, op < 18 → (ptsL.drop (op * 3)).take 3 = [((ptZ op 0 : Nat) : Int), ((ptZ op 1 : Nat) : Int), ((ptZ op 2 : Nat) : Int)] ∧ ptZ op 0 < 7 ∧ ptZ op 1 < 7 ∧ ptZ op 2 < 7 := by decide
  obtain ⟨h1, h2⟩ := key op h
  refine ⟨?_, h2⟩
  unfold ints
  rw [← List.map_drop, ← List.map_take, h1]
  rfl
theorem parts_any (w : World) : Calls PP 276 #[] w (Pure w (.agg (ints ptsL).toArray)) := by
  refine calls_den (fn := Tryz.f276) (args := []) Tryz.func276 rfl (by simp) (fun R hR => ?_)
  refine RUN.alloc rfl rfl (fun b1 w1 n1 => ?_)
  refine RUN.buildArr (r := ints [0, 0, 0]) rfl rfl rfl (by kernel_rfl) ?_
  refine RUN.buildArr (r := ints [2, 1, 0]) rfl rfl rfl (by kernel_rfl) ?_
  refine RUN.buildArr (r := ints [2, 2, 1]) rfl rfl rfl (by kernel_rfl) ?_
  refine RUN.buildArr (r := ints [2, 1, 2]) rfl rfl rfl (by kernel_rfl) ?_
  refine RUN.buildArr (r := ints [2, 2, 0]) rfl rfl rfl (by kernel_rfl) ?_
  refine RUN.buildArr (r := ints [2, 0, 0]) rfl rfl rfl (by kernel_rfl) ?_
  refine RUN.buildArr (r := ints [2, 3, 0]) rfl rfl rfl (by kernel_rfl) ?_
  refine RUN.buildArr (r := ints [3, 2, 0]) rfl rfl rfl (by kernel_rfl) ?_
  refine RUN.buildArr (r := ints [4, 2, 0]) rfl rfl rfl (by kernel_rfl) ?_
  refine RUN.buildArr (r := ints [0, 0, 0]) rfl rfl rfl (by kernel_rfl) ?_
  refine RUN.buildArr (r := ints [0, 1, 1]) rfl rfl rfl (by kernel_rfl) ?_
  refine RUN.buildArr (r := ints [6, 0, 0]) rfl rfl rfl (by kernel_rfl) ?_
  refine RUN.buildArr (r := ints [6, 0, 0]) rfl rfl rfl (by kernel_rfl) ?_
  refine RUN.buildArr (r := ints [2, 2, 0]) rfl rfl rfl (by kernel_rfl) ?_
  refine RUN.buildArr (r := ints [5, 0, 0]) rfl rfl rfl (by kernel_rfl) ?_
  refine RUN.buildArr (r := ints [2, 2, 5]) rfl rfl rfl (by kernel_rfl) ?_
  refine RUN.buildArr (r := ints [1, 1, 0]) rfl rfl rfl (by kernel_rfl) ?_
  refine RUN.buildArr (r := ints [5, 0, 0]) rfl rfl rfl (by kernel_rfl) ?_
  refine RUN.buildArr (r := ints ptsL) rfl rfl rfl (by kernel_rfl) ?_
  refine RUN.sta (vs := ints ptsL) n1.here rfl (by simp [ints, ptsL]) (by decide) (fun w2 u2 => ?_)
  refine RUN.lda u2.here rfl (by simp [setAt, ints, ptsL]; decide) rfl ?_
  exact ⟨rfl, hR _ _ ⟨rfl, n1.ext.trans u2.ch (fun x hx hb => by have := n1.blk; omega)⟩⟩
theorem RUNQ.of {S : World → Prop} {op : Op} {ty : TypeId} {vs : List Value} {K : Value → Prop} {v : Value} (h : ∀ w, S w → RUN op ty vs w (fun v' w' => v' = v ∧ w' = w) (fun _ _ => False)) (k : K v) : RUNQ S op ty vs K := by
  refine .mk v (fun w hs => ?_) k
  cases h w hs with
  | ok v' w' hr hk => obtain ⟨rfl, rfl⟩ := hk; exact hr
  | pan v' w' hr hx => exact hx.elim
/-- Which part of an instruction may not be. -/
def wrongF (g n s : Int) (op : Nat) (a b c : Int) : Int :=
  if fitZ g n s (ptZ op 0) a = false then 1 else if fitZ g n s (ptZ op 1) b = false then 2 else if fitZ g n s (ptZ op 2) c = false then 3 else -1
theorem wrong_in {g n s a b c : Int} {op : Nat} (hop : op < 18) (w : World) : Calls PP 190 #[.agg #[i64 g, i64 n, i64 s], .agg #[i64 op, i64 a, i64 b, i64 c]] w (Pure w (i64 (wrongF g n s op a b c))) := by
  obtain ⟨pr, q0, q1, q2⟩ := ptsL_row hop
  refine calls_den (fn := Tryz.f190) (args := [_, _]) Tryz.func190 rfl (by simp) (fun R hR => ?_)
  refine RUN.box (fun b1 w1 n1 => ?_)
  refine RUN.box (fun b2 w2 n2 => ?_)
  have f1 := n2.at n1.here
  have f2 := n2.here
  have x2 : Ext w w2 := n1.ext.trans' n2.ext
  refine RUN.ld f2 rfl (rfl) ?_
  refine CLt.no (by omega) ?_
  refine RUN.ld f2 rfl (rfl) ?_
  refine CLt.no (by omega) ?_
  refine DRAW.q 5 (qs 5 0) (by kernel_rfl) (fun _ _ _ _ _ h => h) ?_
  refine CALLQ.mk _ rfl (fun w' hs => parts_any w') ?_
  refine RUNQ.ld f2 rfl (rfl) ?_
  refine RUNQ.of (v := .agg #[i64 (ptZ op 0 : Nat), i64 (ptZ op 1 : Nat), i64 (ptZ op 2 : Nat)]) (fun w hs => RUN.indexA rfl rfl rfl rfl (by omega) pr ⟨rfl, rfl⟩) ?_
  intro w3 x3
  replace x2 : Ext w w3 := x2.trans' x3
  replace f1 := x3.at f1
  replace f2 := x3.at f2
  unfold wrongF at hR
  refine LOOP.rounds 5 ?_
  refine CLt.yes (by omega) ?_
  refine RUN.index rfl rfl rfl (by omega) rfl ?_
  refine DRAW.q 12 [(0, .q), (1, .q), (2, .q), (3, .q), (4, .q), (5, .q), (6, .q), (7, .q), (9, .q), (8, .s), (10, .q), (11, .s)] (by kernel_rfl) (fun _ _ _ _ _ h => h) ?_
  refine RUNQ.lda f1 rfl (by first | exact Nat.le_of_ble_eq_true rfl | simp) (rfl) ?_
  refine RUNQ.ld f2 rfl (rfl) ?_
  refine RUNQ.ld f2 rfl (rfl) ?_
  refine RUNQ.ld f2 rfl (rfl) ?_
  intro v1 y1 _
  refine RUN.buildSlice rfl rfl rfl rfl rfl rfl rfl (fun b0 v2 m0 => ?_)
  refine ⟨y1.trans' m0.ext, ?_⟩
  refine BD.mk (0 + 0 * 1) (by first | exact ⟨by decide, by decide, rfl⟩ | exact ⟨by omega, by omega, by omega⟩) ?_
  intro v3 y3 _
  refine RUN.ld (y3.at m0.here) rfl (rfl) ?_
  refine ⟨(y1.trans' m0.ext).trans' y3, ?_⟩
  intro v3' y3'
  have x4 : Ext w v3' := (((x2.trans' y1).trans' m0.ext).trans' y3).trans' y3'
  have zz4 := ((y1.trans' m0.ext).trans' y3).trans' y3'
  refine CALL.by (fits_in rfl q0 v3') rfl ?_
  rintro e v4 ⟨rfl, y4⟩
  cases h0 : fitZ g n s (ptZ op 0) a with
  | false =>
    rw [h0, if_pos rfl] at hR
    refine ART.add (by omega) (fun r hr => ?_)
    subst hr
    exact hR _ _ ⟨rfl, x4.trans' y4⟩
  | true =>
    rw [h0, if_neg (by decide)] at hR
    refine ART.add (by omega) (fun r hr => ?_)
    subst hr
    refine CLt.yes (by omega) ?_
    refine RUN.index rfl rfl rfl (by omega) rfl ?_
    replace x4 := x4.trans' y4
    replace f1 := Ext.at (zz4.trans' y4) f1
    replace f2 := Ext.at (zz4.trans' y4) f2
    refine DRAW.q 12 [(0, .q), (1, .q), (2, .q), (3, .q), (4, .q), (5, .q), (6, .q), (7, .q), (9, .q), (8, .s), (10, .q), (11, .s)] (by kernel_rfl) (fun _ _ _ _ _ h => h) ?_
    refine RUNQ.lda f1 rfl (by first | exact Nat.le_of_ble_eq_true rfl | simp) (rfl) ?_
    refine RUNQ.ld f2 rfl (rfl) ?_
    refine RUNQ.ld f2 rfl (rfl) ?_
    refine RUNQ.ld f2 rfl (rfl) ?_
    intro v1 y1 _
    refine RUN.buildSlice rfl rfl rfl rfl rfl rfl rfl (fun b1 v2 m1 => ?_)
    refine ⟨y1.trans' m1.ext, ?_⟩
    refine BD.mk (0 + 1 * 1) (by first | exact ⟨by decide, by decide, rfl⟩ | exact ⟨by omega, by omega, by omega⟩) ?_
    intro v3 y3 _
    refine RUN.ld (y3.at m1.here) rfl (rfl) ?_
    refine ⟨(y1.trans' m1.ext).trans' y3, ?_⟩
    intro v3' y3'
    have x5 : Ext w v3' := (((x4.trans' y1).trans' m1.ext).trans' y3).trans' y3'
    have zz5 := ((y1.trans' m1.ext).trans' y3).trans' y3'
    refine CALL.by (fits_in rfl q1 v3') rfl ?_
    rintro e v5 ⟨rfl, y5⟩
    cases h1 : fitZ g n s (ptZ op 1) b with
    | false =>
      rw [h1, if_pos rfl] at hR
      refine ART.add (by omega) (fun r hr => ?_)
      subst hr
      exact hR _ _ ⟨rfl, x5.trans' y5⟩
    | true =>
      rw [h1, if_neg (by decide)] at hR
      refine ART.add (by omega) (fun r hr => ?_)
      subst hr
      refine CLt.yes (by omega) ?_
      refine RUN.index rfl rfl rfl (by omega) rfl ?_
      replace x5 := x5.trans' y5
      replace f1 := Ext.at (zz5.trans' y5) f1
      replace f2 := Ext.at (zz5.trans' y5) f2
      refine DRAW.q 12 [(0, .q), (1, .q), (2, .q), (3, .q), (4, .q), (5, .q), (6, .q), (7, .q), (9, .q), (8, .s), (10, .q), (11, .s)] (by kernel_rfl) (fun _ _ _ _ _ h => h) ?_
      refine RUNQ.lda f1 rfl (by first | exact Nat.le_of_ble_eq_true rfl | simp) (rfl) ?_
      refine RUNQ.ld f2 rfl (rfl) ?_
      refine RUNQ.ld f2 rfl (rfl) ?_
      refine RUNQ.ld f2 rfl (rfl) ?_
      intro v1 y1 _
      refine RUN.buildSlice rfl rfl rfl rfl rfl rfl rfl (fun b2 v2 m2 => ?_)
      refine ⟨y1.trans' m2.ext, ?_⟩
      refine BD.mk (0 + 2 * 1) (by first | exact ⟨by decide, by decide, rfl⟩ | exact ⟨by omega, by omega, by omega⟩) ?_
      intro v3 y3 _
      refine RUN.ld (y3.at m2.here) rfl (rfl) ?_
      refine ⟨(y1.trans' m2.ext).trans' y3, ?_⟩
      intro v3' y3'
      have x6 : Ext w v3' := (((x5.trans' y1).trans' m2.ext).trans' y3).trans' y3'
      have zz6 := ((y1.trans' m2.ext).trans' y3).trans' y3'
      refine CALL.by (fits_in rfl q2 v3') rfl ?_
      rintro e v6 ⟨rfl, y6⟩
      cases h2 : fitZ g n s (ptZ op 2) c with
      | false =>
        rw [h2, if_pos rfl] at hR
        refine ART.add (by omega) (fun r hr => ?_)
        subst hr
        exact hR _ _ ⟨rfl, x6.trans' y6⟩
      | true =>
        rw [h2, if_neg (by decide)] at hR
        refine ART.add (by omega) (fun r hr => ?_)
        subst hr
        refine CLt.no (by omega) ?_
        exact hR _ _ ⟨rfl, x6.trans' y6⟩

def Bz (cs : List Value) (T : TypeId) (z : Nat × Nat) : Obj := .cells cs.toArray T z
theorem cell_ofZ {w : World} {b o : Nat} {cs : List Value} {T : TypeId} {z : Nat × Nat} (h : At w b (Bz cs T z)) : w.cell? ⟨b, o, none⟩ = cs[o]? := by
  unfold World.cell?
  rw [show w.heap[b]? = some (Obj.cells cs.toArray T z) from h]
  simp
theorem load_runZ {t b o : Nat} {cs : List Value} {T : TypeId} {z : Nat × Nat} {v : Value} {w : World} (ht : scal t = true) (hb : At w b (Bz cs T z)) (hv : cs[o]? = some v) :
    (Instr.loadAt t (.pointer (some ⟨b, o, none⟩))).run PP w = .ok v w := by
  obtain ⟨h1, h2, h3⟩ := scal_ok ht
  unfold Instr.loadAt
  simp only [Sem.run_bind, Instr.sureAddr, Sem.run_pure, Result.andThen_ok, loadVar, notAgg_run h1 h2 h3]
  simp only [Bool.false_eq_true, if_false, run_load, cell_ofZ hb, hv]
theorem RUN.ldz {ty : TypeId} {w : World} {K : Value → World → Prop} {X : List PanicEntry → World → Prop} {t : TypeId} {x : Operand} {b o : Nat} {cs : List Value} {T : TypeId} {z : Nat × Nat} {v : Value} (hb : At w b (Bz cs T z)) (ht : scal t = true) (hv : cs[o]? = some v) (k : K v w) :
    RUN (.load t x) ty [.pointer (some ⟨b, o, none⟩)] w K X := .ok v w (load_runZ ht hb hv) k
theorem RUNQ.ldz {ty : TypeId} {w : World} {K : Value → Prop} {t : TypeId} {x : Operand} {b o : Nat} {cs : List Value} {T : TypeId} {z : Nat × Nat} {v : Value} (hb : At w b (Bz cs T z)) (ht : scal t = true) (hv : cs[o]? = some v) (k : K v) :
    RUNQ (Ext w) (.load t x) ty [.pointer (some ⟨b, o, none⟩)] K := .mk v (fun w' hs => load_runZ ht (hs.at hb) hv) k
/-- Bytes that are read alone. -/
def BS (w : World) (S : Nat → Prop) (a : Option Addr) (c : Nat) (bs : List Nat) : Prop := ∃ b o pre post z, a = some ⟨b, o, none⟩ ∧ S b ∧ At w b (Bz (pre ++ u8s bs ++ post) 5 z) ∧ pre.length = o
theorem BS.fm {a : Option Addr} {c : Nat} {bs : List Nat} : Fm (fun w S => BS w S a c bs) := by
  rintro w w' S S' ⟨b, o, pre, post, z, h1, h2, h3, h4⟩ hf
  exact ⟨b, o, pre, post, z, h1, (hf b h3.lt h2).2, (hf b h3.lt h2).1.trans h3, h4⟩
theorem BS.of {w : World} {S : Nat → Prop} {a : Option Addr} {c : Nat} {bs : List Nat} (h : VS w S 5 a c (u8s bs)) (hn : 0 < (u8s bs).length) : BS w S a c bs := by
  obtain ⟨b, o, pre, post, h1, h2, h3, h4⟩ := h.open hn
  exact ⟨b, o, pre, post, (0, 0), h1, h2, h3, h4⟩
def rdC (a : Option Addr) (c : Nat) (bs : List Nat) (i : Nat) : List Value := [.slice a (u8s bs).length c, i64 i]
theorem next_ok {w : World} {U : Nat → Prop} {rb c : Nat} {a : Option Addr} {bs : List Nat} {i v : Nat} {least most : Int} (h : At w rb (B (rdC a c bs i) 226)) (hb : BS w U a c bs) (hU : ¬ U rb) (hv : bs[i]? = some v) (hl : least ≤ v ∧ (v : Int) ≤ most) (h255 : v < 256) (hbl : bs.length ≤ 2 ^ 40) :
    Calls PP 134 #[pt rb, i64 least, i64 most] w (fun e w' => e = .returned (i64 v) ∧ At w' rb (B (rdC a c bs (i + 1)) 226) ∧ Ch (fun y => y = rb) w w') := by
  have hil := (List.getElem?_eq_some_iff.1 hv).1
  obtain ⟨b, o, pre, post, z, rfl, r1, r2, r3⟩ := hb
  have hne : b ≠ rb := by rintro rfl; exact hU r1
  have hul := u8s_len bs
  refine calls_den (fn := Tryz.f134) (args := [_, _, _]) Tryz.func134 rfl (by simp) (fun R hR => ?_)
  refine DRAW.q 9 (qs 9 0) (by kernel_rfl) (fun _ _ _ _ _ h => h) ?_
  refine RUNQ.ld h rfl (rfl) ?_
  refine RUNQ.ld h rfl (rfl) ?_
  refine LEN.mk (bs.length : Int) (by rw [hul]) ?_
  intro w1 x1
  refine CLt.yes (by omega) ?_
  refine DRAW.q 8 (qs 8 0) (by kernel_rfl) (fun _ _ _ _ _ h => h) ?_
  refine RUNQ.ld (x1.at h) rfl (rfl) ?_
  refine RUNQ.ld (x1.at h) rfl (rfl) ?_
  intro w2 x2
  replace h := x2.at (x1.at h)
  replace r2 := x2.at (x1.at r2)
  refine BD.mk (o + i * 1) (by first | exact ⟨by decide, by decide, rfl⟩ | exact ⟨by omega, by omega, by omega⟩) ?_
  refine RUN.ldz r2 rfl (v := u8 v) (app_get r3 (u8s_get hv) rfl) ?_
  refine CVI.i64 (by omega) (fun k hk => ?_)
  subst hk
  refine CLt.no (by omega) ?_
  refine CLt.no (by omega) ?_
  refine RUN.ld h rfl (rfl) ?_
  refine ART.add (by omega) (fun r hr => ?_)
  refine RUN.sti h rfl (by simp [rdC]) (fun w3 u3 => ?_)
  subst hr
  refine hR _ _ ⟨rfl, ?_, .upd (.toS (x1.trans' x2)) u3 (.inl rfl)⟩
  exact u3.here
theorem next_bad {w : World} {U : Nat → Prop} {rb c : Nat} {a : Option Addr} {bs : List Nat} {i v : Nat} {least most : Int} (h : At w rb (B (rdC a c bs i) 226)) (hb : BS w U a c bs) (hv : bs[i]? = some v) (hl : (v : Int) < least) (h255 : v < 256) :
    Calls PP 134 #[pt rb, i64 least, i64 most] w (fun e w' => e = .panicked [badV i] ∧ Ext w w') := by
  have hil := (List.getElem?_eq_some_iff.1 hv).1
  obtain ⟨b, o, pre, post, z, rfl, r1, r2, r3⟩ := hb
  have hul := u8s_len bs
  refine calls_den (fn := Tryz.f134) (args := [_, _, _]) Tryz.func134 rfl (by simp) (fun R hR => ?_)
  refine DRAW.q 9 (qs 9 0) (by kernel_rfl) (fun _ _ _ _ _ h => h) ?_
  refine RUNQ.ld h rfl (rfl) ?_
  refine RUNQ.ld h rfl (rfl) ?_
  refine LEN.mk (bs.length : Int) (by rw [hul]) ?_
  intro w1 x1
  refine CLt.yes (by omega) ?_
  refine DRAW.q 8 (qs 8 0) (by kernel_rfl) (fun _ _ _ _ _ h => h) ?_
  refine RUNQ.ld (x1.at h) rfl (rfl) ?_
  refine RUNQ.ld (x1.at h) rfl (rfl) ?_
  intro w2 x2
  replace h := x2.at (x1.at h)
  replace r2 := x2.at (x1.at r2)
  refine BD.mk (o + i * 1) (by first | exact ⟨by decide, by decide, rfl⟩ | exact ⟨by omega, by omega, by omega⟩) ?_
  refine RUN.ldz r2 rfl (v := u8 v) (app_get r3 (u8s_get hv) rfl) ?_
  refine CVI.i64 (by omega) (fun k hk => ?_)
  subst hk
  refine CLt.yes (by omega) ?_
  refine RUN.ld h rfl (rfl) ?_
  exact hR _ _ ⟨rfl, x1.trans' x2⟩

/-- What has been read of an instruction. -/
def pv (v : Nat → Nat) (k j : Nat) : Int := if j < k then (v j : Int) else 0
def pvC (v : Nat → Nat) (k : Nat) : List Value := [i64 (pv v k 0), i64 (pv v k 1), i64 (pv v k 2), i64 (pv v k 3)]
theorem pvC_set {v : Nat → Nat} {k : Nat} (hk : k < 4) : (pvC v k).set k (i64 (v k)) = pvC v (k + 1) := by
  have : k = 0 ∨ k = 1 ∨ k = 2 ∨ k = 3 := by omega
  rcases this with rfl | rfl | rfl | rfl <;> simp [pvC, pv]
theorem wrong_bd {g n s : Int} {v : Nat → Nat} {k : Nat} (hk : k < 4) (h0 : fitZ g n s (ptZ (v 0) 0) (v 1) = true) (h1 : fitZ g n s (ptZ (v 0) 1) (v 2) = true) (h2 : fitZ g n s (ptZ (v 0) 2) (v 3) = true) :
    wrongF g n s (v 0) (pv v (k + 1) 1) (pv v (k + 1) 2) (pv v (k + 1) 3) = -1 ∨ (k : Int) < wrongF g n s (v 0) (pv v (k + 1) 1) (pv v (k + 1) 2) (pv v (k + 1) 3) := by
  have : k = 0 ∨ k = 1 ∨ k = 2 ∨ k = 3 := by omega
  unfold wrongF
  rcases this with rfl | rfl | rfl | rfl
  · repeat' split
    all_goals first | exact .inl rfl | exact .inr (by decide)
  · have e1 : pv v (1 + 1) 1 = v 1 := rfl
    rw [e1, h0, if_neg (by decide)]
    repeat' split
    all_goals first | exact .inl rfl | exact .inr (by decide)
  · have e1 : pv v (2 + 1) 1 = v 1 := rfl
    have e2 : pv v (2 + 1) 2 = v 2 := rfl
    rw [e1, e2, h0, h1, if_neg (by decide), if_neg (by decide)]
    repeat' split
    all_goals first | exact .inl rfl | exact .inr (by decide)
  · have e1 : pv v (3 + 1) 1 = v 1 := rfl
    have e2 : pv v (3 + 1) 2 = v 2 := rfl
    have e3 : pv v (3 + 1) 3 = v 3 := rfl
    rw [e1, e2, e3, h0, h1, h2, if_neg (by decide), if_neg (by decide), if_neg (by decide)]
    exact .inl rfl
theorem inst_ok {w : World} {U : Nat → Prop} {rb c : Nat} {a : Option Addr} {bs : List Nat} {i : Nat} {v : Nat → Nat} {g n s : Int} (h : At w rb (B (rdC a c bs i) 226)) (hb : BS w U a c bs) (hU : ¬ U rb) (hv : ∀ j, j < 4 → bs[i + j]? = some (v j) ∧ v j < 256) (hbl : bs.length ≤ 2 ^ 40)
    (hop : v 0 < 18) (f0 : fitZ g n s (ptZ (v 0) 0) (v 1) = true) (f1 : fitZ g n s (ptZ (v 0) 1) (v 2) = true) (f2 : fitZ g n s (ptZ (v 0) 2) (v 3) = true) :
    Calls PP 135 #[pt rb, .agg #[i64 g, i64 n, i64 s]] w (fun e w' => e = .returned (.agg #[i64 (v 0), i64 (v 1), i64 (v 2), i64 (v 3)]) ∧ At w' rb (B (rdC a c bs (i + 4)) 226) ∧ Ch (fun y => y = rb) w w') := by
  have hil := (List.getElem?_eq_some_iff.1 (hv 0 (by decide)).1).1
  have hul := u8s_len bs
  obtain ⟨b, o, pre, post, z, rfl, r1, r2, r3⟩ := hb
  have hne : b ≠ rb := by rintro rfl; exact hU r1
  have hrl := h.lt
  have hbl2 := r2.lt
  refine calls_den (fn := Tryz.f135) (args := [_, _]) Tryz.func135 rfl (by simp) (fun R hR => ?_)
  refine RUN.box (fun b3 w1 n1 => ?_)
  refine RUN.alloc rfl rfl (fun b4 w2 n2 => ?_)
  refine RUN.ld (n2.at (n1.at h)) rfl (rfl) ?_
  refine RUN.alloc rfl rfl (fun b6 w3 n3 => ?_)
  have k3 := n3.at (n2.at n1.here)
  have k4 := n3.at n2.here
  have k6 := n3.here
  have x3 : Ext w w3 := (n1.ext.trans' n2.ext).trans' n3.ext
  have l3 := n1.blk
  have l4 := n2.blk
  have l6 := n3.blk
  have z1 := n1.ext.size
  have z2 := n2.ext.size
  refine LOOP.inv (X := Nat) (fun k => [(0, pt rb), (3, pt b3), (4, pt b4), (5, i64 i), (6, pt b6), (14, i64 k)])
    (fun k w' => k ≤ 4 ∧ At w' rb (B (rdC (some ⟨b, o, none⟩) c bs (i + k)) 226) ∧ At w' b (Bz (pre ++ u8s bs ++ post) 5 z) ∧ At w' b3 (B [i64 g, i64 n, i64 s] 228) ∧ At w' b4 (B [i64 0, i64 0, i64 0, i64 0] 33) ∧ At w' b6 (B (pvC v k) 288) ∧ Ch (fun y => y = rb) w w')
    (fun k => 4 - k) 0 ⟨rfl, rfl, rfl, rfl, rfl, rfl, trivial⟩ ⟨by omega, x3.at h, x3.at r2, k3, k4, k6, x3.toS⟩ ?_
  rintro k w4 ⟨hk, q0, q1, q3, q4, q6, qc⟩ j
  by_cases hk4 : k < 4
  · obtain ⟨hvk, hvk2⟩ := hv k hk4
    have hkl := (List.getElem?_eq_some_iff.1 hvk).1
    have m1 : b ≠ b6 := by omega
    have m2 : b3 ≠ b6 := n3.ne (n2.at n1.here)
    have m3 : b4 ≠ b6 := n3.ne n2.here
    have m4 : rb ≠ b6 := by omega
    have m5 : b3 ≠ rb := by omega
    have m6 : b4 ≠ rb := by omega
    refine CLt.yes (by omega) ?_
    refine DRAW.q 9 (qs 9 0) (by kernel_rfl) (fun _ _ _ _ _ h => h) ?_
    refine RUNQ.ld q0 rfl (rfl) ?_
    refine RUNQ.ld q0 rfl (rfl) ?_
    refine LEN.mk (bs.length : Int) (by rw [hul]) ?_
    intro w5 x5
    refine CLt.yes (by omega) ?_
    refine DRAW.q 12 (qs 12 0) (by kernel_rfl) (fun _ _ _ _ _ h => h) ?_
    refine RUNQ.ld (x5.at q0) rfl (rfl) ?_
    refine RUNQ.ld (x5.at q0) rfl (rfl) ?_
    refine BD.mk (o + (i + k) * 1) (by first | exact ⟨by decide, by decide, rfl⟩ | exact ⟨by omega, by omega, by omega⟩) ?_
    refine RUNQ.ldz (x5.at q1) rfl (v := u8 (v k)) (app_get r3 (u8s_get hvk) rfl) ?_
    refine CVI.i64 (by omega) (fun r hr => ?_)
    subst hr
    intro w6 x6
    have x46 := x5.trans' x6
    refine BD.mk (0 + k * 1) (by first | exact ⟨by decide, by decide, rfl⟩ | exact ⟨by omega, by omega, by omega⟩) ?_
    refine RUN.sti (Ext.at x46 q6) rfl (by simp [pvC]; omega) (fun w7 u7 => ?_)
    have q6' := u7.here
    rw [show 0 + k * 1 = k by omega, pvC_set hk4] at q6'
    have q0' := u7.at (Ext.at x46 q0) m4
    refine RUN.ld q0' rfl (rfl) ?_
    refine ART.add (by omega) (fun r hr => ?_)
    refine RUN.sti q0' rfl (by simp [rdC]) (fun w8 u8 => ?_)
    have q6'' := u8.at q6' (Ne.symm m4)
    refine BD.mk (0 + 0 * 1) (by first | exact ⟨by decide, by decide, rfl⟩ | exact ⟨by omega, by omega, by omega⟩) ?_
    refine RUN.ld q6'' rfl (rfl) ?_
    refine BD.mk (0 + 1 * 1) (by first | exact ⟨by decide, by decide, rfl⟩ | exact ⟨by omega, by omega, by omega⟩) ?_
    refine RUN.ld q6'' rfl (rfl) ?_
    refine BD.mk (0 + 2 * 1) (by first | exact ⟨by decide, by decide, rfl⟩ | exact ⟨by omega, by omega, by omega⟩) ?_
    refine RUN.ld q6'' rfl (rfl) ?_
    refine BD.mk (0 + 3 * 1) (by first | exact ⟨by decide, by decide, rfl⟩ | exact ⟨by omega, by omega, by omega⟩) ?_
    refine RUN.ld q6'' rfl (rfl) ?_
    refine RUN.alloc rfl rfl (fun b8 w9 n9 => ?_)
    refine RUN.sta (vs := [i64 (pv v (k + 1) 0), i64 (pv v (k + 1) 1), i64 (pv v (k + 1) 2), i64 (pv v (k + 1) 3)]) n9.here rfl (by simp) (by simp [Value.oneCell']) (fun w10 u10 => ?_)
    have d8 := n9.blk
    have z10 : w.heap.size ≤ w9.heap.size := by
      have a1 := qc.size
      have a2 := x46.size
      have a3 := u7.size
      have a4 := u8.size
      have a5 := n9.ext.size
      omega
    have q3' := u10.at (n9.at (u8.at (u7.at (Ext.at x46 q3) m2) m5)) (by have := q3.lt; have a2 := x46.size; have a3 := u7.size; have a4 := u8.size; omega)
    refine RUN.lda q3' rfl (by first | exact Nat.le_of_ble_eq_true rfl | simp) (rfl) ?_
    refine RUN.lda u10.here rfl (by first | exact Nat.le_of_ble_eq_true rfl | simp) (rfl) ?_
    have e0 : pv v (k + 1) 0 = ((v 0 : Nat) : Int) := by simp [pv]
    rw [e0]
    refine CALL.by (wrong_in hop w10) rfl ?_
    rintro e w11 ⟨rfl, x11⟩
    have c11 : Ch (fun y => y = rb) w w11 := by
      refine .ext (.upd (.new (.upd (.upd (qc.ext x46) u7 (.inr (by omega))) u8 (.inl rfl)) n9) u10 (.inr ?_)) x11
      have a1 := qc.size
      have a2 := x46.size
      have a3 := u7.size
      have a4 := u8.size
      omega
    have lt8 : ∀ y, y < w4.heap.size → y ≠ b8 := by
      intro y hy
      have a2 := x46.size
      have a3 := u7.size
      have a4 := u8.size
      omega
    have p0 : At w11 rb (B (rdC (some ⟨b, o, none⟩) c bs (i + (k + 1))) 226) := by
      have := x11.at (u10.at (n9.at u8.here) (lt8 _ q0.lt))
      subst hr
      exact this
    have p1 := x11.at (u10.at (n9.at (u8.at (u7.at (Ext.at x46 q1) m1) hne)) (lt8 _ q1.lt))
    have p3 := x11.at q3'
    have p4 := x11.at (u10.at (n9.at (u8.at (u7.at (Ext.at x46 q4) m3) m6)) (lt8 _ q4.lt))
    have p6 := x11.at (u10.at (n9.at q6'') (lt8 _ q6.lt))
    rcases wrong_bd hk4 f0 f1 f2 with hz | hz
    · rw [hz]
      refine CLt.yes (by omega) ?_
      refine ART.add (by omega) (fun r2 hr2 => ?_)
      subst hr2
      refine Nxt.mk (k + 1) ?_ ?_ ?_
      · exact ⟨rfl, rfl, rfl, rfl, rfl, rfl, trivial⟩
      · exact ⟨by omega, p0, p1, p3, p4, p6, c11⟩
      · omega
    · generalize wrongF g n s (v 0) (pv v (k + 1) 1) (pv v (k + 1) 2) (pv v (k + 1) 3) = z at hz
      refine CLt.no (by omega) ?_
      refine CLt.yes (by omega) ?_
      refine ART.add (by omega) (fun r2 hr2 => ?_)
      subst hr2
      refine Nxt.mk (k + 1) ?_ ?_ ?_
      · exact ⟨rfl, rfl, rfl, rfl, rfl, rfl, trivial⟩
      · exact ⟨by omega, p0, p1, p3, p4, p6, c11⟩
      · omega
  · have : k = 4 := by omega
    subst this
    refine CLt.no (by omega) ?_
    refine BD.mk (0 + 0 * 1) (by first | exact ⟨by decide, by decide, rfl⟩ | exact ⟨by omega, by omega, by omega⟩) ?_
    refine RUN.ld q6 rfl (rfl) ?_
    refine BD.mk (0 + 1 * 1) (by first | exact ⟨by decide, by decide, rfl⟩ | exact ⟨by omega, by omega, by omega⟩) ?_
    refine RUN.ld q6 rfl (rfl) ?_
    refine BD.mk (0 + 2 * 1) (by first | exact ⟨by decide, by decide, rfl⟩ | exact ⟨by omega, by omega, by omega⟩) ?_
    refine RUN.ld q6 rfl (rfl) ?_
    refine BD.mk (0 + 3 * 1) (by first | exact ⟨by decide, by decide, rfl⟩ | exact ⟨by omega, by omega, by omega⟩) ?_
    refine RUN.ld q6 rfl (rfl) ?_
    refine RUN.sta (vs := [i64 (v 0), i64 (v 1), i64 (v 2), i64 (v 3)]) q4 rfl (by simp) (by simp [Value.oneCell']) (fun w5 u5 => ?_)
    refine RUN.lda (vs := [i64 (v 0), i64 (v 1), i64 (v 2), i64 (v 3)]) u5.here rfl (by simp [setAt]; decide) rfl ?_
    exact ⟨rfl, hR _ _ ⟨rfl, u5.at q0 (by omega), qc.upd u5 (.inr (by omega))⟩⟩
end Go.E
end
