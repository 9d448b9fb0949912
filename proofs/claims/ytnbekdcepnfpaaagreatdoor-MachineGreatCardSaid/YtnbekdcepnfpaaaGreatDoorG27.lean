/- A machine is made. -/
import Derived.Test.YtnbekdcepnfpaaaGreatDoorG23
import Derived.Test.YtnbekdcepnfpaaaGreatDoorG26
set_option linter.unusedVariables false
set_option linter.unusedSimpArgs false
set_option maxRecDepth 10000
noncomputable section
namespace Go.E
open Go Go.Proofs

def zB : List Value := List.replicate 33 (i64 0)
def gcP0 (po ro cr : Option Addr) (ns : List (Option Addr × Option Addr)) : Cmp :=
  ⟨fun w S => po = none ∧ ro = none ∧ cr = none ∧ ∃ bs : List Nat, ns = bs.map (fun b => (none, some ⟨b, 0, none⟩)) ∧ RcAt w S 218 bs (bs.map fun _ => zB), by
    rintro w w' S S' ⟨h1, h2, h3, bs, h4, h5⟩ hf
    exact ⟨h1, h2, h3, bs, h4, RcAt.fm w w' S S' h5 hf⟩⟩
def prc0 (b : Nat) : Prc := ⟨-1, 0, -1, 0, 0, none, some ⟨b, 0, none⟩, false, 0, 0, 0⟩
/-- A machine, before its first goroutine. -/
def ms0 (g : Nat) (fs : List (List In)) (bs : List Nat) (words n pct : Int) (f1 f2 : Nat) : MS :=
  { fs := fs, nglob := g, words := words, percent := pct, on := onF f1, part := partF f2, hp := cHp0 n, st := [], gs := [], ps := bs.map prc0, rows := List.replicate bs.length [], common := [], tim := [], waits := List.replicate 32 [], globals := List.replicate g 0,
    clock := 0, ph := ⟨0, 0, List.replicate bs.length false, 0, 0⟩, gc := gcP0, goal := goalF 0 words pct (onF f1), force := 0, parked := [], commits := [], freed := [], steps := 0, out := false }
/-- A machine's cells while it is made. -/
def mRw' (g : Nat) (fa : Option Addr) (fl fc : Nat) (words pct : Int) (on : Bool) (part : Int) (hb stb sb tb wb pb : Value) (la : Option Addr) (pa : Value) : List Value :=
  [i64 g, .slice fa fl fc, i64 words, i64 pct, .bool on, i64 part, hb, stb, nils, pa, sb, tb, wb, .slice la (ints (List.replicate g 0)).length g, i64 0, pb, .pointer none, .pointer none, .pointer none, i64 0, i64 0, i64 0, i64 0, nils, nils, nils, i64 0, .bool false]
def mRw (g : Nat) (fa : Option Addr) (fl fc : Nat) (words pct : Int) (on : Bool) (part : Int) (hb stb sb tb wb pb : Value) (la : Option Addr) : List Value :=
  [i64 g, .slice fa fl fc, i64 words, i64 pct, .bool on, i64 part, hb, stb, nils, nils, sb, tb, wb, .slice la (ints (List.replicate g 0)).length g, i64 0, pb, .pointer none, .pointer none, .pointer none, i64 0, i64 0, i64 0, i64 0, nils, nils, nils, i64 0, .bool false]
theorem mnew_ok {w : World} {U : Nat → Prop} {A : Option Addr} {C g : Nat} {fs : List (List In)} {ps words n : Int} {f1 f2 : Nat} (hb : BS w U A C (encP g fs)) (hok : okP g fs) (hp : 1 ≤ ps ∧ ps ≤ 64) (hw : 256 ≤ words ∧ words < 8388544) (hn : words = 64 * n) :
    Calls PP 52 #[.agg #[i64 ps, i64 words, .float .f64 f1, .float .f64 f2], .slice A (u8s (encP g fs)).length C] w
      (fun e w' => ∃ b bs pct, e = .returned (.tuple #[pt b, i64 0, i64 0]) ∧ MAt w' (fun y => w.heap.size ≤ y) b (spawnF (ms0 g fs bs words n pct f1 f2) 0 0 0) ∧ (bs.length : Int) = ps ∧ Ext w w') := by
  refine calls_sem (fn := Tryz.f52) (args := [_, _]) Tryz.func52 rfl (by simp) (fun R hR => ?_)
  refine SEM.cut (X := Nat × Nat) 3 (fun t => [(2, pt t.1), (7, pt t.2)])
    (fun t w' => ∃ S fa fc, Rn w (fun _ => False) w' S [cAt t.1 (B [i64 ps, i64 words, .float .f64 f1, .float .f64 f2] 24), cAt t.2 (B [i64 g, .slice fa fs.length fc] 30), cFn fa fc fs]) rfl ?_ ?_
  · refine RUN.box (fun b2 w1 n1 => ?_)
    obtain ⟨S1, R1, k1⟩ := (Rn.nil w).add1 n1
    refine RUN.lda (vs := [i64 ps, i64 words, .float .f64 f1, .float .f64 f2]) n1.here rfl (Nat.le_of_ble_eq_true rfl) rfl ?_
    refine CALL.by (may_any ps words f1 f2 w1) rfl ?_
    rintro e w2 ⟨rfl, x2⟩
    rw [decide_eq_true (by omega)]
    refine CALL.by (decode_ok (BS.fm.ext hb (n1.ext.trans' x2)) hok) rfl ?_
    rintro e w3 ⟨fa, fc, T, rfl, hf, hT, x3⟩
    obtain ⟨S3, R3, k3⟩ := (R1.ext x2).add (cFn fa fc fs) x3 (T := T) hf hT
    refine RUN.alloc rfl rfl (fun b7 w4 n4 => ?_)
    obtain ⟨S4, R4, k4⟩ := R3.add1 n4
    refine RUN.sta (vs := [i64 g, .slice fa fs.length fc]) n4.here rfl (by simp) (by simp [Value.oneCell']) (fun w5 u5 => ?_)
    have R5 := R4.st 2 rfl u5
    refine CEq.yes (rfl) ?_
    have R6 := R5.perm (Qs := [cAt b2 (B [i64 ps, i64 words, .float .f64 f1, .float .f64 f2] 24), cAt b7 (B [i64 g, .slice fa fs.length fc] 30), cFn fa fc fs]) [0, 2, 1] rfl (by decide) (by rintro (_ | _ | _ | i) c hc <;> first | exact hc | (simp at hc))
    exact ⟨rfl, (b2, b7), ⟨rfl, rfl, trivial⟩, _, fa, fc, R6⟩
  rintro ⟨b2, b7⟩ w1 ⟨S1, fa, fc, R1⟩ j1
  simp only at R1
  have hg32 := hok.1
  refine SEM.cut (X := Nat) 0 (fun b10 => [(2, pt b2), (10, pt b10)])
    (fun b10 w' => ∃ S la, Rn w (fun _ => False) w' S [cAt b2 (B [i64 ps, i64 words, .float .f64 f1, .float .f64 f2] 24), cFn fa fc fs, cVS 3 la g (List.replicate g (i64 0)),
      cAt b10 (B [i64 g, .slice fa fs.length fc, i64 words, i64 0, .bool false, i64 (partF f2), .pointer none, .pointer none, nils, nils, .pointer none, .pointer none, .pointer none, .slice la (List.replicate g (i64 0)).length g, i64 0, .pointer none, .pointer none, .pointer none, .pointer none, i64 0, i64 0, i64 0, i64 0, nils, nils, nils, i64 0, .bool false] 114)]) rfl ?_ ?_
  · refine DRAW.q 9 [(0, .q), (1, .q), (2, .q), (3, .q), (4, .q), (5, .q), (6, .q), (7, .q), (8, .s)] (by kernel_rfl) (fun _ _ _ _ _ h => h) ?_
    refine RUNQ.lda (vs := [i64 g, .slice fa fs.length fc]) (R1.blk 1 rfl) rfl (Nat.le_of_ble_eq_true rfl) rfl ?_
    refine RUNQ.ld (R1.blk 0 rfl) rfl (rfl) ?_
    refine RUNQ.ld (R1.blk 0 rfl) rfl (rfl) ?_
    refine CALLQ.mk _ rfl (fun w' hs => part_in f2 w') ?_
    refine RUNQ.ld (R1.blk 1 rfl) rfl (rfl) ?_
    intro w2 x2 _
    have R2 := R1.ext x2
    refine RUN.mkslice (n := g) rfl rfl rfl rfl rfl rfl (by omega) rfl (fun bg w3 n3 => ?_)
    refine ⟨x2.trans' n3.ext, ?_⟩
    intro w4 x4
    obtain ⟨S3, R3, k3⟩ := R2.add (cVS 3 (some ⟨bg, 0, none⟩) g (List.replicate g (i64 0))) n3.ext (T := fun y => y = bg) (VS.made n3 (fun y => y = bg) rfl (by simp)) (by rintro y rfl; have := n3.blk; omega)
    have R4 := R3.ext x4
    refine RUN.box (fun b10 w5 n5 => ?_)
    obtain ⟨S5, R5, k5⟩ := R4.add1 n5
    have R6 := R5.perm (Qs := [cAt b2 (B [i64 ps, i64 words, .float .f64 f1, .float .f64 f2] 24), cFn fa fc fs, cVS 3 (some ⟨bg, 0, none⟩) g (List.replicate g (i64 0)),
      cAt b10 (B [i64 g, .slice fa fs.length fc, i64 words, i64 0, .bool false, i64 (partF f2), .pointer none, .pointer none, nils, nils, .pointer none, .pointer none, .pointer none, .slice (some ⟨bg, 0, none⟩) (List.replicate g (i64 0)).length g, i64 0, .pointer none, .pointer none, .pointer none, .pointer none, i64 0, i64 0, i64 0, i64 0, nils, nils, nils, i64 0, .bool false] 114)]) [0, 2, 3, 4] rfl (by decide) (by rintro (_ | _ | _ | _ | i) c hc <;> first | exact hc | (simp at hc))
    exact ⟨rfl, b10, ⟨rfl, rfl, trivial⟩, _, _, R6⟩
  rintro b10 w2 ⟨S2, la, R2⟩ j2
  rw [show List.replicate g (i64 0) = ints (List.replicate g 0) by simp [ints]] at R2
  replace R2 : Rn w (fun _ => False) w2 S2 [cAt b2 (B [i64 ps, i64 words, .float .f64 f1, .float .f64 f2] 24), cFn fa fc fs, cVS 3 la g (ints (List.replicate g 0)), cAt b10 (B (mRw g fa fs.length fc words 0 false (partF f2) (.pointer none) (.pointer none) (.pointer none) (.pointer none) (.pointer none) (.pointer none) la) 114)] := R2
  refine SEM.cut (X := Unit) 4 (fun _ => [(2, pt b2), (10, pt b10)])
    (fun _ w' => ∃ S pct hb sb pb' stb tb wb, Rn w (fun _ => False) w' S [cAt b2 (B [i64 ps, i64 words, .float .f64 f1, .float .f64 f2] 24), cFn fa fc fs, cVS 3 la g (ints (List.replicate g 0)),
      cAt b10 (B (mRw g fa fs.length fc words pct (onF f1) (partF f2) (pt hb) (pt stb) (pt sb) (pt tb) (pt wb) (pt pb') la) 114),
      cHp0 n hb, cSc sb (List.replicate ps.toNat []) [], cPh pb' ⟨0, 0, List.replicate ps.toNat false, 0, 0⟩, cSt stb [], cTm tb [], cWt wb (List.replicate 32 [])]) rfl ?_ ?_
  · refine RUN.ld (R2.blk 0 rfl) rfl (rfl) ?_
    refine CALL.by (percent_any f1 w2) rfl ?_
    rintro e w3 ⟨⟨pct, rfl⟩, x3⟩
    have R3 := R2.ext x3
    refine RUN.sti (R3.blk 3 rfl) rfl (Nat.le_of_ble_eq_true rfl) (fun w4 u4 => ?_)
    have R4 : Rn w (fun _ => False) w4 S2 [cAt b2 (B [i64 ps, i64 words, .float .f64 f1, .float .f64 f2] 24), cFn fa fc fs, cVS 3 la g (ints (List.replicate g 0)), cAt b10 (B (mRw g fa fs.length fc words pct false (partF f2) (.pointer none) (.pointer none) (.pointer none) (.pointer none) (.pointer none) (.pointer none) la) 114)] := R3.st 3 rfl u4
    refine RUN.stb (R4.blk 3 rfl) rfl (Nat.le_of_ble_eq_true rfl) (fun w5 u5 => ?_)
    have R5 : Rn w (fun _ => False) w5 S2 [cAt b2 (B [i64 ps, i64 words, .float .f64 f1, .float .f64 f2] 24), cFn fa fc fs, cVS 3 la g (ints (List.replicate g 0)), cAt b10 (B (mRw g fa fs.length fc words pct (onF f1) (partF f2) (.pointer none) (.pointer none) (.pointer none) (.pointer none) (.pointer none) (.pointer none) la) 114)] := R4.st 3 rfl u5
    refine RUN.ld (R5.blk 0 rfl) rfl (rfl) ?_
    refine RUN.ld (R5.blk 0 rfl) rfl (rfl) ?_
    refine CALL.by (cache_new (n := n) (by omega) hn hp w5) rfl ?_
    rintro e w6 ⟨hb, rfl, q6, x6⟩
    obtain ⟨S6, R6, k6⟩ := R5.add (cHp0 n hb) x6 q6 (fun y hy => hy)
    refine RUN.stp (R6.blk 3 rfl) rfl (Nat.le_of_ble_eq_true rfl) (fun w7 u7 => ?_)
    have R7 : Rn w (fun _ => False) w7 S6 [cAt b2 (B [i64 ps, i64 words, .float .f64 f1, .float .f64 f2] 24), cFn fa fc fs, cVS 3 la g (ints (List.replicate g 0)), cAt b10 (B (mRw g fa fs.length fc words pct (onF f1) (partF f2) (pt hb) (.pointer none) (.pointer none) (.pointer none) (.pointer none) (.pointer none) la) 114), cHp0 n hb] := R6.st 3 rfl u7
    refine RUN.ld (R7.blk 0 rfl) rfl (rfl) ?_
    refine CALL.by (sched_new hp w7) rfl ?_
    rintro e w8 ⟨sb, rfl, q8, x8⟩
    obtain ⟨S8, R8, k8⟩ := R7.add (cSc sb (List.replicate ps.toNat []) []) x8 q8 (fun y hy => hy)
    refine RUN.stp (R8.blk 3 rfl) rfl (Nat.le_of_ble_eq_true rfl) (fun w9 u9 => ?_)
    have R9 : Rn w (fun _ => False) w9 S8 [cAt b2 (B [i64 ps, i64 words, .float .f64 f1, .float .f64 f2] 24), cFn fa fc fs, cVS 3 la g (ints (List.replicate g 0)), cAt b10 (B (mRw g fa fs.length fc words pct (onF f1) (partF f2) (pt hb) (.pointer none) (pt sb) (.pointer none) (.pointer none) (.pointer none) la) 114), cHp0 n hb, cSc sb (List.replicate ps.toNat []) []] := R8.st 3 rfl u9
    refine RUN.ld (R9.blk 0 rfl) rfl (rfl) ?_
    refine CALL.by (phase_new hp w9) rfl ?_
    rintro e w10 ⟨pb', rfl, q10, x10⟩
    obtain ⟨S10, R10, k10⟩ := R9.add (cPh pb' ⟨0, 0, List.replicate ps.toNat false, 0, 0⟩) x10 q10 (fun y hy => hy)
    refine RUN.stp (R10.blk 3 rfl) rfl (Nat.le_of_ble_eq_true rfl) (fun w11 u11 => ?_)
    have R11 : Rn w (fun _ => False) w11 S10 [cAt b2 (B [i64 ps, i64 words, .float .f64 f1, .float .f64 f2] 24), cFn fa fc fs, cVS 3 la g (ints (List.replicate g 0)), cAt b10 (B (mRw g fa fs.length fc words pct (onF f1) (partF f2) (pt hb) (.pointer none) (pt sb) (.pointer none) (.pointer none) (pt pb') la) 114), cHp0 n hb, cSc sb (List.replicate ps.toNat []) [], cPh pb' ⟨0, 0, List.replicate ps.toNat false, 0, 0⟩] := R10.st 3 rfl u11
    refine CALL.by (state_new w11) rfl ?_
    rintro e w12 ⟨stb, rfl, q12, z12, x12⟩
    obtain ⟨S12, R12, k12⟩ := R11.add (cSt stb []) x12 (T := fun y => y = stb) q12 (by rintro y rfl; exact z12)
    refine CALL.by (timer_new w12) rfl ?_
    rintro e w13 ⟨tb, rfl, q13, z13, x13⟩
    obtain ⟨S13, R13, k13⟩ := R12.add (cTm tb []) x13 (T := fun y => y = tb) q13 (by rintro y rfl; omega)
    refine CALL.by (wait_new w13) rfl ?_
    rintro e w14 ⟨wb, rfl, q14, z14, x14⟩
    obtain ⟨S14, R14, k14⟩ := R13.add (cWt wb (List.replicate 32 [])) x14 (T := fun y => y = wb) q14 (by rintro y rfl; omega)
    refine RUN.stp (R14.blk 3 rfl) rfl (Nat.le_of_ble_eq_true rfl) (fun w15 u15 => ?_)
    have R15 : Rn w (fun _ => False) w15 S14 [cAt b2 (B [i64 ps, i64 words, .float .f64 f1, .float .f64 f2] 24), cFn fa fc fs, cVS 3 la g (ints (List.replicate g 0)), cAt b10 (B (mRw g fa fs.length fc words pct (onF f1) (partF f2) (pt hb) (pt stb) (pt sb) (.pointer none) (.pointer none) (pt pb') la) 114), cHp0 n hb, cSc sb (List.replicate ps.toNat []) [], cPh pb' ⟨0, 0, List.replicate ps.toNat false, 0, 0⟩, cSt stb [], cTm tb [], cWt wb (List.replicate 32 [])] := R14.st 3 rfl u15
    refine RUN.stp (R15.blk 3 rfl) rfl (Nat.le_of_ble_eq_true rfl) (fun w16 u16 => ?_)
    have R16 : Rn w (fun _ => False) w16 S14 [cAt b2 (B [i64 ps, i64 words, .float .f64 f1, .float .f64 f2] 24), cFn fa fc fs, cVS 3 la g (ints (List.replicate g 0)), cAt b10 (B (mRw g fa fs.length fc words pct (onF f1) (partF f2) (pt hb) (pt stb) (pt sb) (pt tb) (.pointer none) (pt pb') la) 114), cHp0 n hb, cSc sb (List.replicate ps.toNat []) [], cPh pb' ⟨0, 0, List.replicate ps.toNat false, 0, 0⟩, cSt stb [], cTm tb [], cWt wb (List.replicate 32 [])] := R15.st 3 rfl u16
    refine RUN.stp (R16.blk 3 rfl) rfl (Nat.le_of_ble_eq_true rfl) (fun w17 u17 => ?_)
    have R17 : Rn w (fun _ => False) w17 S14 [cAt b2 (B [i64 ps, i64 words, .float .f64 f1, .float .f64 f2] 24), cFn fa fc fs, cVS 3 la g (ints (List.replicate g 0)), cAt b10 (B (mRw g fa fs.length fc words pct (onF f1) (partF f2) (pt hb) (pt stb) (pt sb) (pt tb) (pt wb) (pt pb') la) 114), cHp0 n hb, cSc sb (List.replicate ps.toNat []) [], cPh pb' ⟨0, 0, List.replicate ps.toNat false, 0, 0⟩, cSt stb [], cTm tb [], cWt wb (List.replicate 32 [])] := R16.st 3 rfl u17
    exact ⟨rfl, (), ⟨rfl, rfl, trivial⟩, S14, pct, hb, sb, pb', stb, tb, wb, R17⟩
  rintro ⟨⟩ w3 ⟨S3, pct, hb, sb, pb', stb, tb, wb, R3⟩ j3
  obtain ⟨T1, Q1, _⟩ := R3.add (cVS 124 none 0 (pts [])) (Ext.refl _) (T := fun _ => False) (VS.nil _ _ _) (fun _ h => h.elim)
  obtain ⟨T2, Q2, _⟩ := Q1.add (cRc 128 [] []) (Ext.refl _) (T := fun _ => False) ⟨rfl, List.nodup_nil, fun k b c hb => by simp at hb⟩ (fun _ h => h.elim)
  obtain ⟨T3, Q3, _⟩ := Q2.add (cRc 218 [] []) (Ext.refl _) (T := fun _ => False) ⟨rfl, List.nodup_nil, fun k b c hb => by simp at hb⟩ (fun _ h => h.elim)
  refine SEM.cut (X := Unit) 0 (fun _ => [(2, pt b2), (10, pt b10)])
    (fun _ w' => ∃ S pa pc pbs bbs, (bbs.length : Int) = ps ∧ pbs.length = bbs.length ∧ Rn w (fun _ => False) w' S [cAt b2 (B [i64 ps, i64 words, .float .f64 f1, .float .f64 f2] 24), cFn fa fc fs, cVS 3 la g (ints (List.replicate g 0)),
      cAt b10 (B (mRw' g fa fs.length fc words pct (onF f1) (partF f2) (pt hb) (pt stb) (pt sb) (pt tb) (pt wb) (pt pb') la (.slice pa (pts pbs).length pc)) 114),
      cHp0 n hb, cSc sb (List.replicate ps.toNat []) [], cPh pb' ⟨0, 0, List.replicate ps.toNat false, 0, 0⟩, cSt stb [], cTm tb [], cWt wb (List.replicate 32 []), cVS 124 pa pc (pts pbs), cRc 128 pbs (bbs.map (fun b => prcC (prc0 b))), cRc 218 bbs (bbs.map fun _ => zB)]) rfl ?_ ?_
  · refine RUN.ld (Q3.blk 0 rfl) rfl (rfl) ?_
    refine LOOP.inv (X := Nat × Option Addr × Nat × List Nat × List Nat) (fun x => [(2, pt b2), (10, pt b10), (89, i64 ps), (90, i64 x.1)])
      (fun x w' => (x.1 : Int) ≤ ps ∧ x.2.2.2.1.length = x.1 ∧ x.2.2.2.2.length = x.1 ∧ ∃ S, Rn w (fun _ => False) w' S [cAt b2 (B [i64 ps, i64 words, .float .f64 f1, .float .f64 f2] 24), cFn fa fc fs, cVS 3 la g (ints (List.replicate g 0)),
      cAt b10 (B (mRw' g fa fs.length fc words pct (onF f1) (partF f2) (pt hb) (pt stb) (pt sb) (pt tb) (pt wb) (pt pb') la (.slice x.2.1 (pts x.2.2.2.1).length x.2.2.1)) 114),
      cHp0 n hb, cSc sb (List.replicate ps.toNat []) [], cPh pb' ⟨0, 0, List.replicate ps.toNat false, 0, 0⟩, cSt stb [], cTm tb [], cWt wb (List.replicate 32 []), cVS 124 x.2.1 x.2.2.1 (pts x.2.2.2.1), cRc 128 x.2.2.2.1 (x.2.2.2.2.map (fun b => prcC (prc0 b))), cRc 218 x.2.2.2.2 (x.2.2.2.2.map fun _ => zB)])
      (fun x => ps.toNat - x.1) (0, none, 0, [], []) ⟨rfl, rfl, rfl, rfl, trivial⟩ ⟨by simp; omega, rfl, rfl, T3, Q3⟩ ?_
    rintro ⟨i, pa, pc, pbs, bbs⟩ v1 ⟨hi, hl1, hl2, S4, Q4⟩ j4
    simp only at hi hl1 hl2 Q4
    by_cases hlt : (i : Int) < ps
    · refine CLt.yes (by omega) ?_
      refine DRAW.q 10 [(0, .q), (1, .q), (2, .q), (3, .q), (4, .q), (5, .s), (6, .q), (7, .s), (8, .s), (9, .f)] (by kernel_rfl) (fun _ _ _ _ _ h => h) ?_
      refine RUNQ.ld (Q4.blk 3 rfl) rfl (rfl) ?_
      intro v2 x2 _
      refine CALL.by (barrier_new v2) rfl ?_
      rintro e v3 ⟨bb, rfl, nb⟩
      refine ⟨x2.trans' nb.ext, ?_⟩
      obtain ⟨S5, Q5, k5⟩ := (Q4.ext x2).add1 nb
      intro v4 x4 y4
      refine RUN.box (fun nb' v5 n5 => ?_)
      refine ⟨y4.trans' n5.ext, ?_⟩
      obtain ⟨S6, Q6, k6⟩ := (Q5.ext x4).add1 n5
      intro v6 x6 y6
      refine RUN.buildSlice rfl rfl rfl rfl rfl rfl rfl (fun b7' v7 n7 => ?_)
      refine ⟨y6.trans' n7.ext, ?_⟩
      intro v8 x8 _
      have Q8 := ((Q6.ext x6).ext n7.ext).ext x8
      obtain ⟨Si, si, hP, cl⟩ := Q8.step 10 rfl
      refine RUN.vapp1 (vs := pts pbs) (v := pt nb') hP (x8.at n7.here) rfl rfl rfl rfl rfl rfl (by rw [pts_len]; omega) rfl (fun a' c' v9 hv hc => ?_)
      obtain ⟨S9', o9, q9⟩ := hv
      obtain ⟨S9, Q9, kp9, kn9⟩ := cl (cVS 124 a' c' (pts pbs ++ [pt nb'])) hc o9 q9
      intro v10 x10
      have Q10 := Q9.ext x10
      refine RUN.stl (Q10.blk 3 rfl) rfl (by simp [mRw']) (fun v11 u11 => ?_)
      have Q11 := Q10.st 3 rfl u11
      have Q12 := Q11.merge 12 13 rfl rfl (by decide) (cRc 218 (bbs ++ [bb]) (bbs.map (fun _ => zB) ++ [zB])) ⟨fun _ _ => True, fun _ _ _ _ _ _ => trivial⟩ (fun A C hd h1 h2 => RcAt.snoc h1 h2 hd) trivial
      have Q13 := Q12.merge 11 14 rfl rfl (by decide) (cRc 128 (pbs ++ [nb']) (bbs.map (fun b => prcC (prc0 b)) ++ [prcC (prc0 bb)])) ⟨fun _ _ => True, fun _ _ _ _ _ _ => trivial⟩ (fun A C hd h1 h2 => RcAt.snoc h1 h2 hd) trivial
      have Q14 : Rn w (fun _ => False) v11 S9 [cAt b2 (B [i64 ps, i64 words, .float .f64 f1, .float .f64 f2] 24), cFn fa fc fs, cVS 3 la g (ints (List.replicate g 0)),
        cAt b10 (B (mRw' g fa fs.length fc words pct (onF f1) (partF f2) (pt hb) (pt stb) (pt sb) (pt tb) (pt wb) (pt pb') la (.slice a' (pts (pbs ++ [nb'])).length c')) 114),
        cHp0 n hb, cSc sb (List.replicate ps.toNat []) [], cPh pb' ⟨0, 0, List.replicate ps.toNat false, 0, 0⟩, cSt stb [], cTm tb [], cWt wb (List.replicate 32 []), cVS 124 a' c' (pts (pbs ++ [nb'])), cRc 128 (pbs ++ [nb']) ((bbs ++ [bb]).map (fun b => prcC (prc0 b))), cRc 218 (bbs ++ [bb]) ((bbs ++ [bb]).map fun _ => zB)] := by
        simp only [pts_app, List.map_append]
        exact Q13.perm [0, 1, 2, 3, 4, 5, 6, 7, 8, 9, 10, 11, 12] rfl (by decide) (by rintro (_ | _ | _ | _ | _ | _ | _ | _ | _ | _ | _ | _ | _ | i) c hc <;> first | exact hc | (simp at hc))
      refine ART.add (by omega) (fun r hr => ?_)
      subst hr
      refine Nxt.mk ((i + 1, a', c', pbs ++ [nb'], bbs ++ [bb])) ?_ ?_ ?_
      · exact ⟨rfl, rfl, rfl, rfl, trivial⟩
      · exact ⟨by show ((i + 1 : Nat) : Int) ≤ ps; omega, by simp [hl1], by simp [hl2], S9, Q14⟩
      · show ps.toNat - (i + 1) < ps.toNat - i
        omega
    · refine CLt.no (by omega) ?_
      exact ⟨rfl, (), ⟨rfl, rfl, trivial⟩, S4, pa, pc, pbs, bbs, by omega, by omega, Q4⟩
  rintro ⟨⟩ w4 ⟨S4, pa, pc, pbs, bbs, hbl, hpl, Q4⟩ j4
  have hpn : ps.toNat = bbs.length := by omega
  rw [hpn] at Q4
  refine SEM.of ?_
  refine DRAW.q 14 [(0, .q), (1, .q), (2, .q), (3, .q), (4, .q), (5, .q), (6, .q), (7, .q), (8, .q), (9, .q), (10, .q), (11, .q), (12, .q), (13, .s)] (by kernel_rfl) (fun _ _ _ _ _ h => h) ?_
  refine RUNQ.ld (Q4.blk 3 rfl) rfl (rfl) ?_
  refine RUNQ.ld (Q4.blk 3 rfl) rfl (rfl) ?_
  refine RUNQ.ld (Q4.blk 3 rfl) rfl (rfl) ?_
  intro w5 x5 y5
  refine CALL.by (goal_in (by omega) w5) rfl ?_
  rintro e w6 ⟨rfl, x6⟩
  refine ⟨y5.trans' x6, ?_⟩
  intro w7 x7
  have Q7 := (Q4.ext (y5.trans' x6)).ext x7
  refine RUN.sta (vs := goalV (goalF 0 words pct (onF f1))) (Q7.blk 3 rfl) rfl (by simp [mRw', goalV]) (by simp [goalV, Value.oneCell']) (fun w8 u8 => ?_)
  have Q8 := Q7.st 3 rfl u8
  obtain ⟨T1, P1, _⟩ := Q8.add (cVS 118 none 0 (pts [])) (Ext.refl _) (T := fun _ => False) (VS.nil _ _ _) (fun _ h => h.elim)
  obtain ⟨T2, P2, _⟩ := P1.add (cRc 121 [] []) (Ext.refl _) (T := fun _ => False) ⟨rfl, List.nodup_nil, fun k b c hb => by simp at hb⟩ (fun _ h => h.elim)
  obtain ⟨T3, P3, _⟩ := P2.add (cVS 3 none 0 (ints [])) (Ext.refl _) (T := fun _ => False) (VS.nil _ _ _) (fun _ h => h.elim)
  obtain ⟨T4, P4, _⟩ := P3.add (cMSl 53 6 none 0 []) (Ext.refl _) (T := fun _ => False) (MSl.nil _ _ _ _) (fun _ h => h.elim)
  obtain ⟨T5, P5, _⟩ := P4.add (cVS 3 none 0 (ints [])) (Ext.refl _) (T := fun _ => False) (VS.nil _ _ _) (fun _ h => h.elim)
  obtain ⟨Si, si, hP, cl⟩ := P5.step 12 rfl
  obtain ⟨T6, P6, _, _⟩ := cl (gcP0 none none none ((bbs.map prc0).map prcN)) (Ch.refl _ _) (Own.refl _ _) ⟨rfl, rfl, rfl, bbs, by simp [prcN, prc0], hP⟩
  have P7 : Rn w (fun _ => False) w8 T6 (mP b10 (ms0 g fs bbs words n pct f1 f2) ⟨hb, stb, sb, tb, wb, pb', fa, none, pa, la, none, none, none, fc, 0, pc, g, 0, 0, 0, [], pbs, none, none, none⟩) := by
    have e : (ms0 g fs bbs words n pct f1 f2).ps.map prcC = bbs.map (fun b => prcC (prc0 b)) := by simp [ms0]
    unfold mP
    rw [e]
    exact P6.perm [3, 1, 4, 7, 13, 14, 10, 11, 5, 8, 9, 2, 6, 12, 15, 16, 17] rfl (by decide) (by
      rintro (_ | _ | _ | _ | _ | _ | _ | _ | _ | _ | _ | _ | _ | _ | _ | _ | _ | i) c hc <;> first | exact hc | (simp at hc))
  clear P6 P5 P4 P3 P2 P1 Q8
  have x08 := P7.ext0
  have zz := x08.size
  refine CALL.by (mspawn_in (p := 0) (f := 0) (v := 0) P7.fin rfl rfl (by show 0 < 1024; decide) rfl (by show 0 < (List.replicate bbs.length ([] : List Int)).length; simp; omega) (by show 0 ≤ 2 ^ 30; decide) (by show (0 : Int) ≠ 1; decide)) rfl ?_
  rintro e w9 ⟨rfl, ⟨L', _, sd9⟩, c9⟩
  refine hR _ _ ⟨b10, bbs, pct, rfl, ⟨L', Side.fm.mono sd9 fun y _ hy => ?_⟩, hbl, x08.trans c9 (fun y hy hh => ?_)⟩
  · rcases hy with (hy | hy) | hy
    · exact hy.elim
    · exact hy
    · omega
  · rcases hh with hh | hh
    · exact hh.elim
    · omega
end Go.E
end
/- How a machine begins; what was committed. -/
set_option linter.unusedVariables false
set_option linter.unusedSimpArgs false
set_option maxRecDepth 10000
noncomputable section
namespace Go.E
open Go Go.Proofs

def core0 (g : Nat) : Core := ⟨[⟨1, 0, 0, 0, stk0 0⟩], List.replicate g 0, List.replicate 32 [], [], 0, fun _ => none⟩
theorem inv0 {g : Nat} {fs : List (List In)} {bs : List Nat} {words n pct : Int} {f1 f2 : Nat} (hf : lenP fs) (hb : 1 ≤ bs.length ∧ bs.length ≤ 64) (hw : 64 ≤ words ∧ words < 8388544) :
    Inv (spawnF (ms0 g fs bs words n pct f1 f2) 0 0 0) ∧ coreM (spawnF (ms0 g fs bs words n pct f1 f2) 0 0 0) = core0 g := by
  refine ⟨⟨hf, ⟨rfl, Int.le_refl _, hp0_live n, ?_, partF_pos f2⟩, hp0_none n, rfl, ?_, ?_, rfl, by show 1 ≤ 1024; decide, by simp [spawnF, readyF, ms0], rfl, ?_, ?_, ?_, Int.le_refl _, ⟨Int.le_refl _, Int.le_refl _⟩, Int.le_refl _⟩, rfl⟩
  · have := goalF_trig (words := words) (percent := pct) (on := onF f1) hw
    show decide (_ ≤ (0 : Int) ∧ _) = false
    refine decide_eq_false ?_
    rintro ⟨h1, _⟩
    have h2 : (goalF 0 words pct (onF f1)).trig ≤ 0 := h1
    omega
  · simp [spawnF, readyF, ms0]
  · show 1 ≤ (bs.map prc0).length ∧ (bs.map prc0).length ≤ 64
    simpa using hb
  · intro y hy
    have hy' : y = ⟨0, 0, 0, stk0 0, 0, 0⟩ := by simpa [spawnF, readyF, ms0] using hy
    subst hy'
    exact ⟨stk0_len 0, hf.1, by show ((0 : Nat) : Int) ≤ 256 + 0 - 0; omega, by show 0 < 65536; decide⟩
  · intro x hx
    have hx' : x ∈ bs.map prc0 := hx
    obtain ⟨b, _, rfl⟩ := List.mem_map.1 hx'
    exact ⟨⟨Int.le_refl _, Int.le_refl _⟩, ⟨Int.le_refl _, Int.le_refl _⟩, ⟨Int.le_refl _, Int.le_refl _⟩, ⟨Int.le_refl _, Int.le_refl _⟩, rfl⟩
  · have h0 : SchI [] ((bs.map prc0).map (·.g)) [] [] := ⟨by simp, List.nodup_nil, fun p v hv => by
      simp [prc0] at hv
      exact .inl hv.2.symm, fun p p' v hv _ => by
      simp [prc0] at hv
      exact .inl hv.2.symm, by simp, List.nodup_nil, by simp⟩
    have h1 := h0.spawn
    have h4 := q_ready (σ := { ms0 g fs bs words n pct f1 f2 with st := [1], gs := [⟨0, 0, 0, stk0 0, 0, 0⟩] }) (p := 0) (g := ((0 : Nat) : Int)) (by show 0 < (List.replicate bs.length ([] : List Int)).length; simp; omega)
    have h5 : (queued { ms0 g fs bs words n pct f1 f2 with st := [1], gs := [⟨0, 0, 0, stk0 0, 0, 0⟩] }) = [] := by
      show (List.replicate bs.length ([] : List Int)).flatten ++ [] = []
      simp
    rw [h5] at h4
    have e : (List.replicate 32 ([] : List Int)).flatten = [] := by simp
    show SchI _ _ ((List.replicate 32 ([] : List Int)).flatten) _
    rw [e]
    exact h1.perm h4.symm (List.Perm.refl _)
theorem mcommit_in {w : World} {S : Nat → Prop} {b : Nat} {σ : MS} {k : Int} {j : Nat} {c : Cmt} (h : MAt w S b σ) (hk : k = j) (hc : σ.commits[j]? = some c) : Calls PP 30 #[pt b, i64 k] w (Pure w (.tuple #[.agg (cmC c).toArray, .bool true])) := by
  subst hk
  have hj := (List.getElem?_eq_some_iff.1 hc).1
  obtain ⟨L, sd⟩ := h
  refine calls_den (fn := Tryz.f30) (args := [_, _]) Tryz.func30 rfl (by simp) (fun R hR => ?_)
  refine RUN.alloc rfl rfl (fun b4 w1 n1 => ?_)
  refine CLt.no (by omega) ?_
  refine CALL.by (mcommits_in ⟨L, Side.fm.ext sd n1.ext⟩) rfl ?_
  rintro e w2 ⟨rfl, x2⟩
  have y2 : Ext w w2 := n1.ext.trans' x2
  have Q2 := Side.fm.ext sd y2
  have hm := Q2.get 15 rfl
  obtain ⟨cb, co, pre, post, ha, r1, r2, r3, r4⟩ := hm.open (by simp; omega)
  refine CLt.yes (by omega) ?_
  refine RUN.ld (v := .slice (some ⟨cb, co, none⟩) (σ.commits.map cmC).length L.cc) (Q2.blk 0 rfl) rfl (by rw [← ha]; rfl) ?_
  refine BD.mk (co + j * 6) ⟨by omega, by simp; omega, rfl⟩ ?_
  refine RUN.lda (vs := cmC c) r2 rfl (mapp_len hm.1 r3 (by simpa using hj) rfl) (mapp_row hm.1 r3 (by simp [hc]) rfl) ?_
  refine RUN.sta (vs := cmC c) (x2.at n1.here) rfl (by simp [cmC]) (by simp [cmC, Value.oneCell']) (fun w3 u3 => ?_)
  refine RUN.lda (vs := cmC c) u3.here rfl (Nat.le_of_ble_eq_true rfl) rfl ?_
  exact ⟨rfl, hR _ _ ⟨rfl, y2.trans u3.ch (fun y hy hb => by have := n1.blk; omega)⟩⟩
end Go.E
end
