/- A script is read whole. -/
import Derived.Test.YtnbekdcepnfpaaaGreatDoorG17
set_option linter.unusedVariables false
set_option linter.unusedSimpArgs false
set_option maxRecDepth 10000
noncomputable section
namespace Go.E
open Go Go.Proofs

/-- The parts while a script is read. -/
def dcP (b2 b3 b4 rb : Nat) (g : Int) (a : Option Addr) (c : Nat) (A : Option Addr) (C : Nat) (bs : List Nat) (i : Nat) (ls : List FL) (fs : List (List In)) : List Cmp :=
  [cAt b2 (B [i64 g, .slice a (fnV ls fs).length c] 30), cAt rb (B (rdC A C bs i) 226), cVS 34 a c (fnV ls fs), cSb ls fs, cAt b3 (B [i64 0] 3), cAt b4 (B [i64 0] 3)]
theorem decode_ok {w : World} {U : Nat → Prop} {A : Option Addr} {C g : Nat} {fs : List (List In)} (hb : BS w U A C (encP g fs)) (hok : okP g fs) :
    Calls PP 87 #[.slice A (u8s (encP g fs)).length C] w (fun e w' => ∃ fa fc T, e = .returned (.tuple #[.agg #[i64 g, .slice fa fs.length fc], i64 0, i64 0]) ∧ FnAt w' T fa fc fs ∧ (∀ y, T y → w.heap.size ≤ y) ∧ Ext w w') := by
  obtain ⟨hg, hn1, hn2, hl⟩ := hok
  have hok : okP g fs := ⟨hg, hn1, hn2, hl⟩
  have hbl := okP_len hok
  replace hb := BS.fm.mono hb (fun y hy hs => (⟨hs, hy⟩ : U y ∧ y < w.heap.size))
  generalize hbs : encP g fs = bs at *
  have hul := u8s_len bs
  have b0 : bs[0]? = some fs.length := by rw [← hbs]; rfl
  have b1 : bs[1]? = some g := by rw [← hbs]; rfl
  refine calls_denD (fn := Tryz.f87) (args := [_]) Tryz.func87 rfl (by simp) (fun R hR => ?_)
  refine RUN.alloc rfl rfl (fun b2 w1 n1 => ?_)
  refine RUN.alloc rfl rfl (fun b3 w2 n2 => ?_)
  refine RUN.alloc rfl rfl (fun b4 w3 n3 => ?_)
  refine RUN.box (fun rb w4 n4 => ?_)
  have x4 : Ext w w4 := ((n1.ext.trans' n2.ext).trans' n3.ext).trans' n4.ext
  obtain ⟨S1, R1, k1⟩ := (Rn.nil w).add1 n1
  obtain ⟨S2, R2, k2⟩ := R1.add1 n2
  obtain ⟨S3, R3, k3⟩ := R2.add1 n3
  obtain ⟨S4, R4, k4⟩ := R3.add1 n4
  have hne : b2 ≠ rb := n4.ne (n3.at (n2.at n1.here))
  have l1 := n1.blk
  have l2 := n2.blk
  have l3 := n3.blk
  have l4 := n4.blk
  have z1 := n1.ext.size
  have z2 := n2.ext.size
  have z3 := n3.ext.size
  refine CALL.by (next_ok (a := A) (c := C) (bs := bs) (i := 0) n4.here (BS.fm.ext hb x4) (fun hh => by have := hh.2; omega) b0 ⟨by omega, by omega⟩ (by omega) (by omega)) rfl ?_
  rintro e w5 ⟨rfl, h5, c5⟩
  replace R4 := R4.stC 3 rfl c5 h5
  have x5 := R4.ext0
  refine CALL.by (next_ok (a := A) (c := C) (bs := bs) (i := 1) h5 (BS.fm.ext hb x5) (fun hh => by have := hh.2; omega) b1 ⟨by omega, by omega⟩ (by omega) (by omega)) rfl ?_
  rintro e w6 ⟨rfl, h6, c6⟩
  replace R4 := R4.stC 3 rfl c6 h6
  refine RUN.sti (R4.blk 0 rfl) rfl (by simp) (fun w7 u7 => ?_)
  replace R4 := R4.st 0 rfl u7
  obtain ⟨S5, R5, k5⟩ := R4.add (cVS 34 none 0 []) (Ext.refl _) (T := fun _ => False) (VS.nil _ _ _) (fun _ h => h.elim)
  obtain ⟨S6, R6, k6⟩ := R5.add (cSb [] []) (Ext.refl _) (T := fun _ => False) ⟨rfl, fun i x l hx => by simp at hx⟩ (fun _ h => h.elim)
  have R7 : Rn w (fun _ => False) w7 S6 (dcP b2 b3 b4 rb g none 0 A C bs 2 [] []) :=
    R6.perm [0, 3, 4, 5, 1, 2] rfl (by decide) (by rintro (_ | _ | _ | _ | _ | _ | i) c hc <;> first | exact hc | (simp [dcP] at hc))
  clear R4 R5 R6
  refine LOOP.inv (X := Nat × Option Addr × Nat × List FL) (fun x => [(0, .slice A (u8s bs).length C), (2, pt b2), (3, pt b3), (4, pt b4), (5, pt rb), (6, i64 fs.length), (18, i64 fs.length), (19, i64 x.1)])
    (fun x w' => x.1 ≤ fs.length ∧ ∃ S, Rn w (fun _ => False) w' S (dcP b2 b3 b4 rb g x.2.1 x.2.2.1 A C bs (posP fs x.1) x.2.2.2 (fs.take x.1)))
    (fun x => fs.length - x.1) (0, none, 0, []) ⟨rfl, rfl, rfl, rfl, rfl, rfl, rfl, rfl, trivial⟩ ⟨Nat.zero_le _, S6, by simpa [posP_zero] using R7⟩ ?_
  rintro ⟨k, a, c, ls⟩ v1 ⟨hk, T1, Q1⟩ j
  simp only at hk Q1
  by_cases hlt : k < fs.length
  · have hfk : fs[k]? = some fs[k] := List.getElem?_eq_getElem hlt
    generalize hfl : fs[k] = l at hfk
    obtain ⟨hl1, hl2, hli⟩ := hl l (List.mem_of_getElem? hfk)
    have hlen := encP_len (g := g) hfk
    rw [hbs] at hlen
    refine CLt.yes (by omega) ?_
    -- the region that reads a function's size
    have hrw : ∀ y, U y ∧ y < w.heap.size → y ≠ rb := fun y hy => by have := hy.2; omega
    refine DRAW.cut (X := Nat) (fun x => [(0, .slice A (u8s bs).length C), (2, pt b2), (3, pt b3), (4, pt b4), (5, pt rb), (6, i64 fs.length), (7, pt x), (18, i64 fs.length), (19, i64 k)])
      (fun x w' => ∃ S, Rn w (fun _ => False) w' S (dcP b2 b3 b4 rb g a c A C bs (posP fs k + 1) ls (fs.take k) ++ [cAt x (B [i64 g, i64 fs.length, i64 l.length] 228)])) ?_ ?_
    · refine DRAW.tk 7 (.q 0 (.q 1 (.q 2 (.q 3 (.b 4 6 (.q 5 (.s 6 .nil)) (.s 4 (.q 5 .nil))))))) [b2] (by kernel_rfl) (fun _ _ _ _ _ h => absurd h.1 (by simp)) ?_
      refine RUNQ.kld (Q1.blk 0 rfl) (by simp) rfl (rfl) ?_
      refine ⟨?_, ?_⟩
      · intro v2 y2 s2
        have Q2 := Q1.ext y2
        refine CALL.by (next_ok (a := A) (c := C) (bs := bs) (i := posP fs k) (Q2.blk 1 rfl) (BS.fm.ext hb Q2.ext0) (fun hh => hrw _ hh rfl) hlen ⟨by omega, by omega⟩ (by omega) (by omega)) rfl ?_
        rintro e v3 ⟨rfl, h3, c3⟩
        have Q3 := Q2.stC 1 rfl c3 h3
        have s3 : Keep v1 [b2] v3 := Keep.ch s2 c3 (fun y hy _ hh => by simp at hy; omega)
        refine ⟨s3, ?_⟩
        intro v4 y4 s4
        refine RUN.alloc rfl rfl (fun b7 v5 n5 => ?_)
        refine ⟨Keep.ext _ _ _ _ s4 n5.ext, ?_⟩
        intro v6 y6
        refine RUN.sta (vs := [i64 g, i64 fs.length, i64 l.length]) (y6.at n5.here) rfl (by simp) (by simp [Value.oneCell']) (fun v7 u7 => ?_)
        obtain ⟨T2, Q5, k5⟩ := (Q3.ext y4).add1 n5
        exact ⟨rfl, rfl, b7, ⟨rfl, rfl, rfl, rfl, rfl, rfl, rfl, rfl, rfl, trivial⟩, T2, (Q5.ext y6).st 6 rfl u7⟩
      · intro v2 y2 s2
        have Q2 := Q1.ext y2
        refine RUN.alloc rfl rfl (fun b7 v3 n3' => ?_)
        obtain ⟨T2, Q3, k3'⟩ := Q2.add1 n3'
        refine ⟨Keep.ext _ _ _ _ s2 n3'.ext, ?_⟩
        intro v4 y4 s4
        have Q4 := Q3.ext y4
        refine CALL.by (next_ok (a := A) (c := C) (bs := bs) (i := posP fs k) (Q4.blk 1 rfl) (BS.fm.ext hb Q4.ext0) (fun hh => hrw _ hh rfl) hlen ⟨by omega, by omega⟩ (by omega) (by omega)) rfl ?_
        rintro e v5 ⟨rfl, h5, c5⟩
        have Q5 := Q4.stC 1 rfl c5 h5
        have s5 : Keep v1 [b2] v5 := Keep.ch s4 c5 (fun y hy _ hh => by simp at hy; omega)
        refine ⟨s5, ?_⟩
        intro v6 y6
        have Q6 := Q5.ext y6
        refine RUN.sta (vs := [i64 g, i64 fs.length, i64 l.length]) (Q6.blk 6 rfl) rfl (by simp) (by simp [Value.oneCell']) (fun v7 u7 => ?_)
        exact ⟨rfl, rfl, b7, ⟨rfl, rfl, rfl, rfl, rfl, rfl, rfl, rfl, rfl, trivial⟩, T2, Q6.st 6 rfl u7⟩
    rintro b7 v2 ⟨T2, Q2⟩ j2
    refine RUN.ld (Q2.blk 6 rfl) rfl (rfl) ?_
    refine LOOP.inv (X := Nat × Option Addr × Nat) (fun x => [(0, .slice A (u8s bs).length C), (2, pt b2), (3, pt b3), (4, pt b4), (5, pt rb), (6, i64 fs.length), (7, pt b7), (8, .slice x.2.1 ((l.take x.1).map inC).length x.2.2), (18, i64 fs.length), (19, i64 k), (28, i64 l.length), (29, i64 x.1)])
      (fun x w' => x.1 ≤ l.length ∧ ∃ S, Rn w (fun _ => False) w' S (dcP b2 b3 b4 rb g a c A C bs (posP fs k + 1 + 4 * x.1) ls (fs.take k) ++ [cAt b7 (B [i64 g, i64 fs.length, i64 l.length] 228), cMSl 33 4 x.2.1 x.2.2 ((l.take x.1).map inC)]))
      (fun x => l.length - x.1) (0, none, 0) ⟨rfl, rfl, rfl, rfl, rfl, rfl, rfl, rfl, rfl, rfl, rfl, rfl, trivial⟩ ?_ ?_
    · obtain ⟨T3, Q3, k3'⟩ := Q2.add (cMSl 33 4 none 0 []) (Ext.refl _) (T := fun _ => False) (MSl.nil _ _ _ _) (fun _ h => h.elim)
      exact ⟨Nat.zero_le _, T3, by simpa using Q3⟩
    rintro ⟨m, a2, c2⟩ v3 ⟨hm, T3, Q3⟩ j3
    simp only at hm Q3
    by_cases hml : m < l.length
    · have him : l[m]? = some l[m] := List.getElem?_eq_getElem hml
      generalize hgi : l[m] = i at him
      obtain ⟨o1, o2, o3, o4⟩ := hli i (List.mem_of_getElem? him)
      have hbyte : ∀ q, q < 4 → bs[posP fs k + 1 + 4 * m + q]? = some ((fun j => (encI i).getD j 0) q) ∧ (fun j => (encI i).getD j 0) q < 256 := by
        intro q hq
        refine ⟨?_, ?_⟩
        · have := encP_in (g := g) hfk him hq
          rw [hbs] at this
          exact this
        · have h1 := fitZ_bd hg hn2 hl2 o2
          have h2 := fitZ_bd hg hn2 hl2 o3
          have h3 := fitZ_bd hg hn2 hl2 o4
          have : q = 0 ∨ q = 1 ∨ q = 2 ∨ q = 3 := by omega
          rcases this with rfl | rfl | rfl | rfl
          · show i.op < 256; omega
          · exact h1
          · exact h2
          · exact h3
      refine CLt.yes (by omega) ?_
      refine RUN.lda (Q3.blk 6 rfl) rfl (by first | exact Nat.le_of_ble_eq_true rfl | simp) (rfl) ?_
      refine CALL.by (inst_ok (a := A) (c := C) (bs := bs) (g := g) (n := fs.length) (s := l.length) (v := fun j => (encI i).getD j 0) (Q3.blk 1 rfl) (BS.fm.ext hb Q3.ext0) (fun hh => hrw _ hh rfl) hbyte (by omega) o1 o2 o3 o4) rfl ?_
      rintro e v4 ⟨rfl, h4, c4⟩
      have Q4 := Q3.stC 1 rfl c4 h4
      refine RUN.buildSlice rfl rfl rfl rfl rfl rfl rfl (fun b8 v5 n5 => ?_)
      have Q5 := Q4.ext n5.ext
      obtain ⟨Si, sub, hP, cl⟩ := Q5.step 7 rfl
      refine RUN.mapp1 (rs := (l.take m).map inC) (r := inC i) hP n5.here rfl rfl rfl rfl rfl rfl rfl (by simp [inC, Value.oneCell']) (by simp; omega) rfl (fun a' c' v6 hv hc => ?_)
      obtain ⟨S6, o6, q6⟩ := hv
      obtain ⟨T6, Q6, _⟩ := cl (cMSl 33 4 a' c' ((l.take m).map inC ++ [inC i])) hc o6 q6
      have etk : (l.take (m + 1)).map inC = (l.take m).map inC ++ [inC i] := by
        rw [List.take_succ_eq_append_getElem hml, hgi]; simp
      refine ART.add (by omega) (fun r hr => ?_)
      subst hr
      refine Nxt.mk ((m + 1, a', c')) ?_ ?_ ?_
      · refine ⟨rfl, rfl, rfl, rfl, rfl, rfl, rfl, ?_, rfl, rfl, rfl, rfl, trivial⟩
        show _ = Value.slice a' ((l.take (m + 1)).map inC).length c'
        rw [etk]; rfl
      · refine ⟨by show m + 1 ≤ l.length; omega, T6, ?_⟩
        show Rn _ _ _ _ (dcP b2 b3 b4 rb g a c A C bs (posP fs k + 1 + 4 * (m + 1)) ls (fs.take k) ++ [_, cMSl 33 4 a' c' ((l.take (m + 1)).map inC)])
        rw [etk, show posP fs k + 1 + 4 * (m + 1) = posP fs k + 1 + 4 * m + 4 by omega]
        exact Q6
      · show l.length - (m + 1) < l.length - m
        omega
    · have : m = l.length := by omega
      subst this
      rw [List.take_length] at Q3
      refine CLt.no (by omega) ?_
      refine RUN.ld (Q3.blk 0 rfl) rfl (rfl) ?_
      refine RUN.buildSlice rfl rfl rfl rfl rfl rfl rfl (fun b8 v5 n5 => ?_)
      have Q5 := Q3.ext n5.ext
      obtain ⟨Si, sub, hP, cl⟩ := Q5.step 2 rfl
      have hlsl : ls.length = (fs.take k).length := (Q5.get 3 rfl).1
      have h5 : At v5 b8 (B [.slice a2 l.length c2] 34) := by
        have h := n5.here
        have e : ((l.take l.length).map inC).length = l.length := by simp
        rw [e] at h
        exact h
      refine RUN.vapp1 (vs := fnV ls (fs.take k)) (v := .slice a2 l.length c2) hP h5 rfl rfl rfl rfl rfl rfl (by rw [fnV_len hlsl]; simp; omega) rfl (fun a' c' v6 hv hc => ?_)
      obtain ⟨S6, o6, q6⟩ := hv
      obtain ⟨T6, Q6, _⟩ := cl (cVS 34 a' c' (fnV ls (fs.take k) ++ [Value.slice a2 l.length c2])) hc o6 q6
      have etk : fs.take (k + 1) = fs.take k ++ [l] := by rw [List.take_succ_eq_append_getElem hlt, hfl]
      have efn := fnV_app hlsl ⟨a2, c2⟩ l
      refine RUN.stl (Q6.blk 0 rfl) rfl (by simp) (fun v7 u7 => ?_)
      refine ART.add (by omega) (fun r hr => ?_)
      subst hr
      have Q7 := Q6.st 0 rfl u7
      have Q8 := Q7.merge 3 7 rfl rfl (by decide) (cSb (ls ++ [(⟨a2, c2⟩ : FL)]) (fs.take k ++ [l])) (cMSl 33 4 none 0 []) (fun X Y _ h1 h2 => SbAt.app (x := ⟨a2, c2⟩) h1 h2) (MSl.nil _ _ _ _)
      refine Nxt.mk ((k + 1, a', c', ls ++ [⟨a2, c2⟩])) ?_ ?_ ?_
      · exact ⟨rfl, rfl, rfl, rfl, rfl, rfl, rfl, rfl, trivial⟩
      · refine ⟨by show k + 1 ≤ fs.length; omega, T6, ?_⟩
        show Rn _ _ _ _ (dcP b2 b3 b4 rb g a' c' A C bs (posP fs (k + 1)) (ls ++ [⟨a2, c2⟩]) (fs.take (k + 1)))
        rw [etk, posP_succ hfk]
        unfold dcP
        rw [efn, show posP fs k + (1 + 4 * l.length) = posP fs k + 1 + 4 * l.length by omega]
        exact Q8.perm [0, 1, 2, 3, 4, 5] rfl (by decide) (by rintro (_ | _ | _ | _ | _ | _ | i) c hc <;> first | exact hc | (simp at hc))
      · show fs.length - (k + 1) < fs.length - k
        omega
  · have : k = fs.length := by omega
    subst this
    rw [List.take_length] at Q1
    have hlsl : ls.length = fs.length := (Q1.get 3 rfl).1
    have hpe := posP_end g fs
    rw [hbs] at hpe
    refine CLt.no (by omega) ?_
    refine RUN.ld (Q1.blk 1 rfl) rfl (rfl) ?_
    refine LEN.mk (bs.length : Int) (by rw [hul]) ?_
    refine CLt.no (by omega) ?_
    refine RUN.lda (Q1.blk 0 rfl) rfl (by first | exact Nat.le_of_ble_eq_true rfl | simp) (rfl) ?_
    refine RUN.sta (vs := [i64 g, .slice a (fnV ls fs).length c]) (Q1.blk 0 rfl) rfl (by simp) (by simp [Value.oneCell']) (fun v2 u2 => ?_)
    have Q2 := Q1.st 0 rfl u2
    refine RUN.sti (Q2.blk 4 rfl) rfl (by simp) (fun v3 u3 => ?_)
    have Q3 := Q2.st 4 rfl u3
    refine RUN.sti (Q3.blk 5 rfl) rfl (by simp) (fun v4 u4 => ?_)
    have Q4 := Q3.st 5 rfl u4
    refine ⟨by simp, rfl, (dec1_ok v4).mono ?_⟩
    rintro e u' v5 ⟨rfl, rfl, x5⟩
    have Q5 := Q4.ext x5
    refine RUN.lda (vs := [i64 g, .slice a (fnV ls fs).length c]) (Q5.blk 0 rfl) rfl (Nat.le_of_ble_eq_true rfl) rfl ?_
    refine ⟨rfl, ?_⟩
    refine RUN.ld (Q5.blk 4 rfl) rfl (rfl) ?_
    refine ⟨rfl, ?_⟩
    refine RUN.ld (Q5.blk 5 rfl) rfl (rfl) ?_
    refine ⟨rfl, hR _ _ ⟨a, c, _, ?_, FnAt.of (Q5.get 3 rfl) (Q5.get 2 rfl), fun y hy => ?_, Q5.ext0⟩⟩
    · rw [← fnV_len hlsl]; rfl
    · rcases hy with hy | hy
      · exact (Q5.oo y hy).resolve_left id
      · exact (Q5.oo y hy).resolve_left id
/-- A script that is none: its first instruction is not known. -/
theorem wrong_op {g n s a b c op : Int} (hop : 17 < op) (w : World) : Calls PP 190 #[.agg #[i64 g, i64 n, i64 s], .agg #[i64 op, i64 a, i64 b, i64 c]] w (Pure w (i64 0)) := by
  refine calls_den (fn := Tryz.f190) (args := [_, _]) Tryz.func190 rfl (by simp) (fun R hR => ?_)
  refine RUN.box (fun b1 w1 n1 => ?_)
  refine RUN.box (fun b2 w2 n2 => ?_)
  refine RUN.ld n2.here rfl (rfl) ?_
  refine CLt.no (by omega) ?_
  refine RUN.ld n2.here rfl (rfl) ?_
  refine CLt.yes (by omega) ?_
  exact hR _ _ ⟨rfl, n1.ext.trans' n2.ext⟩
theorem inst_bad {w : World} {U : Nat → Prop} {rb c : Nat} {a : Option Addr} {bs : List Nat} {i v : Nat} {g n s : Int} (h : At w rb (B (rdC a c bs i) 226)) (hb : BS w U a c bs) (hU : ¬ U rb) (hv : bs[i]? = some v) (hv2 : 17 < v ∧ v < 256) (hbl : bs.length ≤ 2 ^ 40) :
    Calls PP 135 #[pt rb, .agg #[i64 g, i64 n, i64 s]] w (fun e w' => e = .panicked [badV i] ∧ Ch (fun y => y = rb) w w') := by
  have hil := (List.getElem?_eq_some_iff.1 hv).1
  have hul := u8s_len bs
  obtain ⟨b, o, pre, post, z, rfl, r1, r2, r3⟩ := hb
  have hne : b ≠ rb := by rintro rfl; exact hU r1
  refine calls_den (fn := Tryz.f135) (args := [_, _]) Tryz.func135 rfl (by simp) (fun R hR => ?_)
  refine RUN.box (fun b3 w1 n1 => ?_)
  refine RUN.alloc rfl rfl (fun b4 w2 n2 => ?_)
  refine RUN.ld (n2.at (n1.at h)) rfl (rfl) ?_
  refine RUN.alloc rfl rfl (fun b6 w3 n3 => ?_)
  have k3 := n3.at (n2.at n1.here)
  have q0 := n3.at (n2.at (n1.at h))
  have q1 := n3.at (n2.at (n1.at r2))
  have q6 := n3.here
  have x3 : Ext w w3 := (n1.ext.trans' n2.ext).trans' n3.ext
  have m4 : rb ≠ b6 := n3.ne (n2.at (n1.at h))
  have m3 : b3 ≠ b6 := n3.ne (n2.at n1.here)
  have m5 : b3 ≠ rb := Ne.symm (n1.ne h)
  have z3 := x3.size
  have hb6 : w.heap.size ≤ b6 := by have := n3.blk; have := (n1.ext.trans' n2.ext).size; omega
  refine LOOP.rounds 1 ?_
  refine CLt.yes (by omega) ?_
  refine DRAW.q 9 (qs 9 0) (by kernel_rfl) (fun _ _ _ _ _ h => h) ?_
  refine RUNQ.ld q0 rfl (rfl) ?_
  refine RUNQ.ld q0 rfl (rfl) ?_
  refine LEN.mk (bs.length : Int) (by rw [hul]) ?_
  intro w5 x5
  refine CLt.yes (by omega) ?_
  refine DRAW.q 12 (qs 12 0) (by kernel_rfl) (fun _ _ _ _ _ h => h) ?_
  refine RUNQ.ld (x5.at q0) rfl (rfl) ?_
  refine RUNQ.ld (x5.at q0) rfl (rfl) ?_
  refine BD.mk (o + i * 1) (by first | exact ⟨by decide, by decide, rfl⟩ | exact ⟨by omega, by omega, by omega⟩) ?_
  refine RUNQ.ldz (x5.at q1) rfl (v := u8 v) (app_get r3 (u8s_get hv) rfl) ?_
  refine CVI.i64 (by omega) (fun r hr => ?_)
  subst hr
  intro w6 x6
  have x46 := x5.trans' x6
  refine BD.mk (0 + 0 * 1) (by first | exact ⟨by decide, by decide, rfl⟩ | exact ⟨by omega, by omega, by omega⟩) ?_
  refine RUN.sti (Ext.at x46 q6) rfl (by decide) (fun w7 u7 => ?_)
  have q6' := u7.here
  have q0' := u7.at (Ext.at x46 q0) m4
  refine RUN.ld q0' rfl (rfl) ?_
  refine ART.add (by omega) (fun r hr => ?_)
  refine RUN.sti q0' rfl (by simp [rdC]) (fun w8 u8 => ?_)
  have q6'' := u8.at q6' (Ne.symm m4)
  refine BD.mk (0 + 0 * 1) (by first | exact ⟨by decide, by decide, rfl⟩ | exact ⟨by omega, by omega, by omega⟩) ?_
  refine RUN.ld q6'' rfl (rfl) ?_
  refine BD.mk (0 + 1 * 1) (by first | exact ⟨by decide, by decide, rfl⟩ | exact ⟨by omega, by omega, by omega⟩) ?_
  refine RUN.ld q6'' rfl (rfl) ?_
  refine BD.mk (0 + 2 * 1) (by first | exact ⟨by decide, by decide, rfl⟩ | exact ⟨by omega, by omega, by omega⟩) ?_
  refine RUN.ld q6'' rfl (rfl) ?_
  refine BD.mk (0 + 3 * 1) (by first | exact ⟨by decide, by decide, rfl⟩ | exact ⟨by omega, by omega, by omega⟩) ?_
  refine RUN.ld q6'' rfl (rfl) ?_
  refine RUN.alloc rfl rfl (fun b8 w9 n9 => ?_)
  refine RUN.sta (vs := [i64 v, i64 0, i64 0, i64 0]) n9.here rfl (by simp) (by simp [Value.oneCell']) (fun w10 u10 => ?_)
  have q3' := u10.at (n9.at (u8.at (u7.at (Ext.at x46 k3) m3) m5)) (n9.ne (u8.at (u7.at (Ext.at x46 k3) m3) m5))
  refine RUN.lda q3' rfl (by first | exact Nat.le_of_ble_eq_true rfl | simp) (rfl) ?_
  refine RUN.lda u10.here rfl (by first | exact Nat.le_of_ble_eq_true rfl | simp) (rfl) ?_
  refine CALL.by (wrong_op (by omega) w10) rfl ?_
  rintro e w11 ⟨rfl, x11⟩
  refine CLt.no (by omega) ?_
  refine CLt.no (by omega) ?_
  refine ART.add (by omega) (fun r2 hr2 => ?_)
  have : r2 = i := by omega
  subst this
  refine hR _ _ ⟨rfl, .ext (.upd (.new (.upd (.upd ((Ext.ch x3).ext x46) u7 (.inr hb6)) u8 (.inl rfl)) n9) u10 (.inr ?_)) x11⟩
  have a2 := x46.size
  have a3 := u7.size
  have a4 := u8.size
  have := n9.blk
  omega
def badB : List Nat := [1, 0, 1, 99, 0, 0, 0]
theorem decode_bad {w : World} {U : Nat → Prop} {A : Option Addr} {C : Nat} (hb : BS w U A C badB) :
    Calls PP 87 #[.slice A (u8s badB).length C] w (fun e w' => e = .returned (.tuple #[.agg #[i64 0, nils], i64 6, i64 3]) ∧ Ext w w') := by
  replace hb := BS.fm.mono hb (fun y hy hs => (⟨hs, hy⟩ : U y ∧ y < w.heap.size))
  refine calls_denD (fn := Tryz.f87) (args := [_]) Tryz.func87 rfl (by simp) (fun R hR => ?_)
  refine RUN.alloc rfl rfl (fun b2 w1 n1 => ?_)
  refine RUN.alloc rfl rfl (fun b3 w2 n2 => ?_)
  refine RUN.alloc rfl rfl (fun b4 w3 n3 => ?_)
  refine RUN.box (fun rb w4 n4 => ?_)
  have x4 : Ext w w4 := ((n1.ext.trans' n2.ext).trans' n3.ext).trans' n4.ext
  obtain ⟨S1, R1, k1⟩ := (Rn.nil w).add1 n1
  obtain ⟨S2, R2, k2⟩ := R1.add1 n2
  obtain ⟨S3, R3, k3⟩ := R2.add1 n3
  obtain ⟨S4, R4, k4⟩ := R3.add1 n4
  have hrbw : w.heap.size ≤ rb := by have := n4.blk; have := ((n1.ext.trans' n2.ext).trans' n3.ext).size; omega
  have hrw : ∀ y, U y ∧ y < w.heap.size → y ≠ rb := fun y hy => by have := hy.2; omega
  have hne : b2 ≠ rb := n4.ne (n3.at (n2.at n1.here))
  have d23 : b2 ≠ b3 := n2.ne n1.here
  have d24 : b2 ≠ b4 := n3.ne (n2.at n1.here)
  have d34 : b3 ≠ b4 := n3.ne n2.here
  refine CALL.by (next_ok (a := A) (c := C) (bs := badB) (i := 0) (v := 1) n4.here (BS.fm.ext hb x4) (fun hh => hrw _ hh rfl) rfl ⟨by omega, by omega⟩ (by omega) (by decide)) rfl ?_
  rintro e w5 ⟨rfl, h5, c5⟩
  replace R4 := R4.stC 3 rfl c5 h5
  refine CALL.by (next_ok (a := A) (c := C) (bs := badB) (i := 1) (v := 0) h5 (BS.fm.ext hb R4.ext0) (fun hh => hrw _ hh rfl) rfl ⟨by omega, by omega⟩ (by omega) (by decide)) rfl ?_
  rintro e w6 ⟨rfl, h6, c6⟩
  replace R4 := R4.stC 3 rfl c6 h6
  refine RUN.sti (R4.blk 0 rfl) rfl (by simp) (fun w7 u7 => ?_)
  have R7 := R4.st 0 rfl u7
  refine LOOP.rounds 1 ?_
  refine CLt.yes (by omega) ?_
  refine DRAW.cut (X := Nat) (fun x => [(0, .slice A (u8s badB).length C), (2, pt b2), (3, pt b3), (4, pt b4), (5, pt rb), (6, i64 1), (7, pt x), (18, i64 1), (19, i64 0)])
    (fun x w' => ∃ S, Rn w (fun _ => False) w' S [cAt b2 (B [i64 0, nils] 30), cAt b3 (B [i64 0] 3), cAt b4 (B [i64 0] 3), cAt rb (B (rdC A C badB 3) 226), cAt x (B [i64 0, i64 1, i64 1] 228)]) ?_ ?_
  · refine DRAW.tk 7 (.q 0 (.q 1 (.q 2 (.q 3 (.b 4 6 (.q 5 (.s 6 .nil)) (.s 4 (.q 5 .nil))))))) [b2] (by kernel_rfl) (fun _ _ _ _ _ h => absurd h.1 (by simp)) ?_
    refine RUNQ.kld (R7.blk 0 rfl) (by simp) rfl (rfl) ?_
    refine ⟨?_, ?_⟩
    · intro v2 y2 s2
      have Q2 := R7.ext y2
      refine CALL.by (next_ok (a := A) (c := C) (bs := badB) (i := 2) (v := 1) (Q2.blk 3 rfl) (BS.fm.ext hb Q2.ext0) (fun hh => hrw _ hh rfl) rfl ⟨by omega, by omega⟩ (by omega) (by decide)) rfl ?_
      rintro e v3 ⟨rfl, h3, c3⟩
      have Q3 := Q2.stC 3 rfl c3 h3
      refine ⟨Keep.ch s2 c3 (fun y hy _ hh => by simp at hy; omega), ?_⟩
      intro v4 y4 s4
      refine RUN.alloc rfl rfl (fun b7 v5 n5 => ?_)
      refine ⟨Keep.ext _ _ _ _ s4 n5.ext, ?_⟩
      intro v6 y6
      refine RUN.sta (vs := [i64 0, i64 1, i64 1]) (y6.at n5.here) rfl (by simp) (by simp [Value.oneCell']) (fun v7 u7 => ?_)
      obtain ⟨T2, Q5, k5⟩ := (Q3.ext y4).add1 n5
      exact ⟨rfl, rfl, b7, ⟨rfl, rfl, rfl, rfl, rfl, rfl, rfl, rfl, rfl, trivial⟩, T2, (Q5.ext y6).st 4 rfl u7⟩
    · intro v2 y2 s2
      have Q2 := R7.ext y2
      refine RUN.alloc rfl rfl (fun b7 v3 n3' => ?_)
      obtain ⟨T2, Q3, k3'⟩ := Q2.add1 n3'
      refine ⟨Keep.ext _ _ _ _ s2 n3'.ext, ?_⟩
      intro v4 y4 s4
      have Q4 := Q3.ext y4
      refine CALL.by (next_ok (a := A) (c := C) (bs := badB) (i := 2) (v := 1) (Q4.blk 3 rfl) (BS.fm.ext hb Q4.ext0) (fun hh => hrw _ hh rfl) rfl ⟨by omega, by omega⟩ (by omega) (by decide)) rfl ?_
      rintro e v5 ⟨rfl, h5, c5⟩
      have Q5 := Q4.stC 3 rfl c5 h5
      refine ⟨Keep.ch s4 c5 (fun y hy _ hh => by simp at hy; omega), ?_⟩
      intro v6 y6
      have Q6 := Q5.ext y6
      refine RUN.sta (vs := [i64 0, i64 1, i64 1]) (Q6.blk 4 rfl) rfl (by simp) (by simp [Value.oneCell']) (fun v7 u7 => ?_)
      exact ⟨rfl, rfl, b7, ⟨rfl, rfl, rfl, rfl, rfl, rfl, rfl, rfl, rfl, trivial⟩, T2, Q6.st 4 rfl u7⟩
  rintro b7 v2 ⟨T2, Q2⟩ j2
  refine RUN.ld (Q2.blk 4 rfl) rfl (rfl) ?_
  refine LOOP.rounds 1 ?_
  refine CLt.yes (by omega) ?_
  refine RUN.lda (Q2.blk 4 rfl) rfl (by first | exact Nat.le_of_ble_eq_true rfl | simp) (rfl) ?_
  refine CALL.by (inst_bad (a := A) (c := C) (bs := badB) (v := 99) (Q2.blk 3 rfl) (BS.fm.ext hb Q2.ext0) (fun hh => hrw _ hh rfl) rfl ⟨by omega, by omega⟩ (by decide)) rfl ?_
  rintro e v3 ⟨rfl, c3⟩
  have m2 := c3.at (Q2.blk 0 rfl) hne
  have m3 := c3.at (Q2.blk 1 rfl) (n4.ne (n3.at n2.here))
  have m4 := c3.at (Q2.blk 2 rfl) (n4.ne n3.here)
  refine ⟨by simp, rfl, (dec1_bad m2 rfl m3 m4 d23 d24 d34).mono ?_⟩
  rintro e u' v5 ⟨rfl, rfl, h2, h3, h4, c5⟩
  refine RUN.lda (vs := [i64 0, nils]) h2 rfl (Nat.le_of_ble_eq_true rfl) rfl ?_
  refine ⟨rfl, ?_⟩
  refine RUN.ld h3 rfl (rfl) ?_
  refine ⟨rfl, ?_⟩
  refine RUN.ld h4 rfl (rfl) ?_
  refine ⟨rfl, hR _ _ ⟨rfl, ?_⟩⟩
  have hb2 : w.heap.size ≤ b2 := by have := n1.blk; omega
  have hb3 : w.heap.size ≤ b3 := by have := n2.blk; have := n1.ext.size; omega
  have hb4 : w.heap.size ≤ b4 := by have := n3.blk; have := (n1.ext.trans' n2.ext).size; omega
  exact (Q2.ext0.trans c3 (fun y hy hh => by omega)).trans c5 (fun y hy hh => by omega)
end Go.E
end
/- The heap at the beginning; room. -/
set_option linter.unusedVariables false
set_option linter.unusedSimpArgs false
set_option maxRecDepth 10000
noncomputable section
namespace Go.E
open Go Go.Proofs

theorem cache_new {words ps n : Int} (hw : 256 ≤ words ∧ words ≤ 16777216) (hn : words = 64 * n) (hp : 1 ≤ ps ∧ ps ≤ 64) (w : World) :
    Calls PP 90 #[i64 words, i64 ps] w (fun e w' => ∃ b, e = .returned (.tuple #[pt b, i64 0]) ∧ Hp0 w' (fun y => w.heap.size ≤ y) b n ∧ Ext w w') := by
  refine calls_den (fn := Tryz.f90) (args := [_, _]) Tryz.func90 rfl (by simp) (fun R hR => ?_)
  refine CALL.by (arena_new hw hn w) rfl ?_
  rintro e w1 ⟨ab, pb, s, o, ob, ra, rc, S1, rfl, R1⟩
  refine CEq.yes (rfl) ?_
  refine CLt.no (by omega) ?_
  refine CLt.no (by omega) ?_
  refine CALL.by (central_new w1) rfl ?_
  rintro e w2 ⟨cb, rfl, hcb, x2⟩
  refine RUN.box (fun hb w3 n3 => ?_)
  obtain ⟨S2, R2, k2⟩ := (R1.ext x2).add1 n3
  obtain ⟨S3, R3, k3⟩ := R2.add (cVS 37 none 0 []) (Ext.refl _) (T := fun _ => False) (VS.nil _ _ _) (fun _ h => h.elim)
  refine LOOP.inv (X := Nat × Option Addr × Nat × List Value) (fun x => [(8, pt hb), (30, i64 ps), (31, i64 x.1)])
    (fun x w' => (x.1 : Int) ≤ ps ∧ x.2.2.2.length = x.1 ∧ ∃ S, Rn w (fun _ => False) w' S [cAt pb (B [i64 n, .slice ra 1 rc] 266), cMSl 177 2 ra rc [[i64 1, i64 (n - 1)]], cMp s [], cMp ob [], cAt ab (B [pt pb, .map (some s), .map (some o), .map (some ob), i64 0] 172), cAt hb (B [pt ab, pt cb, .slice x.2.1 x.2.2.2.length x.2.2.1] 197), cVS 37 x.2.1 x.2.2.1 x.2.2.2])
    (fun x => ps.toNat - x.1) (0, none, 0, []) ⟨rfl, rfl, rfl, trivial⟩ ⟨by simp; omega, rfl, S3, R3⟩ ?_
  rintro ⟨i, oa, oc, vs⟩ v1 ⟨hi, hvl, T1, Q1⟩ j
  simp only at hi hvl Q1
  by_cases hlt : (i : Int) < ps
  · refine CLt.yes (by omega) ?_
    refine CALL.by (count_any v1) rfl ?_
    rintro e v2 ⟨rfl, y2⟩
    refine RUN.mkslice (n := 16) rfl rfl rfl rfl rfl rfl (by decide) rfl (fun bl v3 n3' => ?_)
    have Q2 := Q1.ext y2
    obtain ⟨Q3, hbl, nbl, lbl⟩ := Q2.fresh n3'
    refine LEN.mk (16) (by first | rfl | simp [ints] | (simp [ints]; omega)) ?_
    refine LOOP.inv (X := Nat) (fun j => [(8, pt hb), (9, .slice (some ⟨bl, 0, none⟩) 16 16), (30, i64 ps), (31, i64 i), (36, i64 16), (37, i64 j)])
      (fun j w' => j ≤ 16 ∧ (∃ cs, cs.length = 16 ∧ At w' bl (B cs 3)) ∧ Rn w (fun _ => False) w' T1 [cAt pb (B [i64 n, .slice ra 1 rc] 266), cMSl 177 2 ra rc [[i64 1, i64 (n - 1)]], cMp s [], cMp ob [], cAt ab (B [pt pb, .map (some s), .map (some o), .map (some ob), i64 0] 172), cAt hb (B [pt ab, pt cb, .slice oa vs.length oc] 197), cVS 37 oa oc vs])
      (fun j => 16 - j) 0 ⟨rfl, rfl, rfl, rfl, rfl, rfl, trivial⟩ ⟨by omega, ⟨_, by simp, hbl⟩, Q3⟩ ?_
    rintro k v4 ⟨hk, ⟨cs, hcl, hcs⟩, Q4⟩ j4
    by_cases hk16 : k < 16
    · refine CLt.yes (by omega) ?_
      refine BD.mk (0 + k * 1) (by first | exact ⟨by decide, by decide, rfl⟩ | exact ⟨by omega, by omega, by omega⟩) ?_
      refine RUN.sti hcs rfl (by omega) (fun v5 u5 => ?_)
      refine ART.add (by omega) (fun r hr => ?_)
      subst hr
      refine Nxt.mk (k + 1) ?_ ?_ ?_
      · exact ⟨rfl, rfl, rfl, rfl, rfl, rfl, trivial⟩
      · exact ⟨by omega, ⟨_, by simpa using hcl, u5.here⟩, Q4.upd u5 lbl nbl⟩
      · omega
    · refine CLt.no (by omega) ?_
      refine RUN.ld (Q4.blk 5 rfl) rfl (rfl) ?_
      refine RUN.buildSlice rfl rfl rfl rfl rfl rfl rfl (fun b8 v5 n5 => ?_)
      have Q5 := Q4.ext n5.ext
      obtain ⟨Si, sub, hP, cl⟩ := Q5.step 6 rfl
      refine RUN.vapp1 (vs := vs) (v := .slice (some ⟨bl, 0, none⟩) 16 16) hP n5.here rfl rfl rfl rfl rfl rfl (by omega) rfl (fun a' c' v6 hv hc => ?_)
      obtain ⟨S6, o6, q6⟩ := hv
      obtain ⟨T6, Q6, _⟩ := cl (cVS 37 a' c' (vs ++ [Value.slice (some ⟨bl, 0, none⟩) 16 16])) hc o6 q6
      refine RUN.stl (Q6.blk 5 rfl) rfl (by simp) (fun v7 u7 => ?_)
      refine ART.add (by omega) (fun r hr => ?_)
      subst hr
      refine Nxt.mk ((i + 1, a', c', vs ++ [Value.slice (some ⟨bl, 0, none⟩) 16 16])) ?_ ?_ ?_
      · exact ⟨rfl, rfl, rfl, trivial⟩
      · exact ⟨by show ((i + 1 : Nat) : Int) ≤ ps; omega, by simp [hvl], T6, Q6.st 5 rfl u7⟩
      · show ps.toNat - (i + 1) < ps.toNat - i
        omega
  · refine CLt.no (by omega) ?_
    refine hR _ _ ⟨hb, rfl, ⟨ab, cb, pb, s, o, ob, ra, rc, .slice oa vs.length oc, ?_⟩, Q1.ext0⟩
    have Q2 := Q1.perm (Qs := hpC hb ab cb pb s o ob n ra rc (.slice oa vs.length oc)) [5, 4, 2, 3, 0, 1] rfl (by decide) (by rintro (_ | _ | _ | _ | _ | _ | i) c hc <;> first | exact hc | (simp [hpC] at hc))
    exact Side.fm.mono Q2.sd fun y _ hy => (Q2.oo y hy).resolve_left id
end Go.E
end
