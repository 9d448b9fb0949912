/- The reference finds no fault. -/
import Derived.Laws.IdiomStrings
import Derived.Laws.BytesArg
import Derived.Test.YtnbekdcepnfpaaaGreatDoorG28
import Derived.Test.YtnbekdcepnfpaaaGreatDoorG16
import Derived.Test.YtnbekdcepnfpaaaGreatDoorG17
set_option linter.unusedVariables false
set_option linter.unusedSimpArgs false
set_option maxRecDepth 10000
noncomputable section
namespace Go.E
open Go Go.Proofs

theorem kTr_len {k : Nat} (h : k < 18) : (kTr k).length = 3 := (by decide : ∀ k, k < 18 → (kTr k).length = 3) k h
theorem kTr_bd {k : Nat} (h : k < 18) : ∀ j, j < 3 → ∃ m : Nat, (kTr k)[j]? = some (m : Int) ∧ m < 7 := by
  intro j hj
  have := (by decide : ∀ k, k < 18 → ∀ j, j < 3 → ((kTr k)[j]?).any (fun v => decide (0 ≤ v ∧ v < 7)) = true) k h j hj
  have hl := kTr_len h
  have hg : (kTr k)[j]? = some (kTr k)[j] := List.getElem?_eq_getElem (by omega)
  rw [hg] at this
  simp at this
  exact ⟨((kTr k)[j]).toNat, by rw [hg]; congr 1; omega, by omega⟩
/-- An instruction that may be, by the reference. -/
def okR (g n s : Int) (i : In) : Prop := i.op < 18 ∧ ∀ j m : Nat, j < 3 → (kTr i.op)[j]? = some (m : Int) → ((([i.a, i.b, i.c] : List Nat).getD j 0 : Nat) : Int) < limR g n s m
theorem wrongR_ok {g n s : Int} {i : In} (h : okR g n s i) (w : World) : Calls PP 82 #[.agg (inC i).toArray, i64 g, i64 n, i64 s] w (Pure w (i64 (-1))) := by
  obtain ⟨hop, hf⟩ := h
  refine calls_den (fn := Tryz.f82) (args := [_, _, _, _]) Tryz.func82 rfl (by simp) (fun R hR => ?_)
  refine RUN.box (fun b4 w1 n1 => ?_)
  refine RUN.ld n1.here rfl (show _ = some (i64 i.op) from rfl) ?_
  refine CALL.by (kinds_in rfl hop w1) rfl ?_
  rintro e w2 ⟨kb, rfl, hk, x2⟩
  have f4 := x2.at n1.here
  refine RUN.ld f4 rfl (show _ = some (i64 i.a) from rfl) ?_
  refine RUN.ld f4 rfl (show _ = some (i64 i.b) from rfl) ?_
  refine RUN.ld f4 rfl (show _ = some (i64 i.c) from rfl) ?_
  refine RUN.buildSlice rfl rfl rfl rfl rfl rfl rfl (fun b5 w3 n3 => ?_)
  have hp : At w3 b5 (B [i64 i.a, i64 i.b, i64 i.c] 3) := n3.here
  have hk3 := n3.at hk
  refine LOOP.inv (X := Nat) (fun j => [(1, i64 g), (2, i64 n), (3, i64 s), (9, .slice (some ⟨kb, 0, none⟩) 3 3), (10, .slice (some ⟨b5, 0, none⟩) 3 3), (11, i64 j)]) (fun j w' => j ≤ 3 ∧ Ext w3 w') (fun j => 3 - j) 0 ⟨rfl, rfl, rfl, rfl, rfl, rfl, trivial⟩ ⟨Nat.zero_le _, Ext.refl _⟩ ?_
  rintro j w4 ⟨hj, x4⟩ j4
  by_cases hlt : j < 3
  · obtain ⟨m, hm, hm7⟩ := kTr_bd hop j hlt
    have hlim := hf j m hlt hm
    have hpj : [i64 i.a, i64 i.b, i64 i.c][0 + j * 1]? = some (i64 ((([i.a, i.b, i.c] : List Nat).getD j 0 : Nat) : Int)) := by
      have : j = 0 ∨ j = 1 ∨ j = 2 := by omega
      rcases this with rfl | rfl | rfl <;> rfl
    refine CLt.yes (by omega) ?_
    refine DRAW.q 11 (qs 11 0) (by kernel_rfl) (fun _ _ _ _ _ h => h) ?_
    refine BD.mk (0 + j * 1) ⟨by omega, by omega, rfl⟩ ?_
    refine RUNQ.ld (v := i64 m) (x4.at hk3) rfl (by rw [show 0 + j * 1 = j by omega]; exact ints_get hm) ?_
    refine BD.mk (0 + j * 1) ⟨by omega, by omega, rfl⟩ ?_
    refine RUNQ.ld (v := i64 ((([i.a, i.b, i.c] : List Nat).getD j 0 : Nat) : Int)) (x4.at hp) rfl hpj ?_
    intro w5 x5
    refine CALL.by (rfits_in rfl hm7 w5) rfl ?_
    rintro e w6 ⟨rfl, x6⟩
    rw [decide_eq_true (by omega)]
    refine ART.add (by omega) (fun r hr => ?_)
    subst hr
    refine Nxt.mk (j + 1) ?_ ?_ ?_
    · exact ⟨rfl, rfl, rfl, rfl, rfl, rfl, trivial⟩
    · exact ⟨hlt, (x4.trans' x5).trans' x6⟩
    · omega
  · refine CLt.no (by omega) ?_
    exact hR _ _ ⟨rfl, ((n1.ext.trans' x2).trans' n3.ext).trans' x4⟩
end Go.E
end
/- Bytes and strings. -/
set_option linter.unusedVariables false
set_option linter.unusedSimpArgs false
set_option maxRecDepth 10000
noncomputable section
namespace Go.E
open Go Go.Proofs

def strB (bs : List Nat) : ByteArray := strOfNums (bs.map Int.ofNat)
theorem under9 : PP.underlying 9 = some .string := by kernel_rfl
theorem under97 : PP.underlying 97 = some (.slice 5) := by kernel_rfl
theorem under5 : PP.underlying 5 = some (.int .u8) := by kernel_rfl
theorem RUN.toStr {ty : TypeId} {x : Operand} {w : World} {K : Value → World → Prop} {X : List PanicEntry → World → Prop} {S : Nat → Prop} {a : Option Addr} {c : Nat} {bs : List Nat} (h : BS w S a c bs) (k : K (.string (strB bs)) w) :
    RUN (.convert 97 9 x) ty [.slice a (u8s bs).length c] w K X := by
  obtain ⟨b, o, pre, post, z, rfl, h1, h2, h3⟩ := h
  refine .ok _ w ?_ k
  show (convert 97 9 _).run PP w = _
  refine run_convert_bytes_arg w 97 5 under97 under5 b o _ c (bs.map Int.ofNat) (by simp [u8s]) (fun i hi => ?_) 9 under9
  rw [cell_ofZ h2]
  have hi' : i < bs.length := by simpa [u8s] using hi
  rw [List.append_assoc, List.getElem?_append_right (by omega), List.getElem?_append_left (by rw [u8s_len]; omega)]
  have : o + i - pre.length = i := by omega
  rw [this, u8s_get (List.getElem?_eq_getElem hi')]
  simp [List.getD_eq_getElem?_getD, hi', u8]
theorem RUN.toBytes {ty : TypeId} {x : Operand} {w : World} {K : Value → World → Prop} {X : List PanicEntry → World → Prop} {bs : List Nat} (hb : ∀ v ∈ bs, v < 256) (k : ∀ b c w', BS w' (· = b) (some ⟨b, 0, none⟩) c bs → b = w.heap.size → Ext w w' → K (.slice (some ⟨b, 0, none⟩) (u8s bs).length c) w') :
    RUN (.convert 9 97 x) ty [.string (strB bs)] w K X := by
  have hr := run_bytes_of_string (P := PP) w 9 97 5 (strB bs) under9 under97 under5
  have hs : (strB bs).size = (u8s bs).length := by simp [strB, strOfNums_size, u8s]
  have hd : w.drew.heap = w.heap := rfl
  generalize ho : (Obj.cells (bytesRow (strB bs) (grownCap w (strB bs).size 0 5)) 5 ((bytesRow (strB bs) (grownCap w (strB bs).size 0 5)).size, (bytesRow (strB bs) (grownCap w (strB bs).size 0 5)).size + 1)) = ob at hr
  have hn0 : New w.drew (w.drew.alloc ob) w.drew.heap.size ob := alloc_new _
  have hn : New w (w.drew.alloc ob) w.heap.size ob := ⟨hn0.blk, hn0.here, hn0.size, hn0.old, hn0.os, hn0.output⟩
  refine .ok _ _ hr ?_
  rw [hs]
  refine k w.heap.size _ _ ⟨w.heap.size, 0, [], List.replicate (grownCap w (strB bs).size 0 5 - (strB bs).size) (u8 0), ((bytesRow (strB bs) (grownCap w (strB bs).size 0 5)).size, (bytesRow (strB bs) (grownCap w (strB bs).size 0 5)).size + 1), rfl, rfl, ?_, rfl⟩ rfl hn.ext
  have e : bytesRow (strB bs) (grownCap w (strB bs).size 0 5) = ([] ++ u8s bs ++ List.replicate (grownCap w (strB bs).size 0 5 - (strB bs).size) (u8 0)).toArray := by
    unfold bytesRow
    have e1 : (strB bs).data.map (fun b => Value.int .u8 b.toNat) = (u8s bs).toArray := by
      unfold strB strOfNums u8s
      simp only [List.map_toArray, List.map_map]
      congr 1
      refine List.map_congr_left fun v hv => ?_
      have := hb v hv
      simp [u8]
      omega
    rw [e1]
    simp
    exact .inr rfl
  have := hn.here
  unfold Bz
  rw [← e, ho]
  exact this
end Go.E
end
/- The reference lets a program be. -/
set_option linter.unusedVariables false
set_option linter.unusedSimpArgs false
set_option maxRecDepth 10000
noncomputable section
namespace Go.E
open Go Go.Proofs

/-- A program that may be, by the reference. -/
def okRP (g : Nat) (fs : List (List In)) : Prop := g ≤ 32 ∧ 1 ≤ fs.length ∧ fs.length ≤ 16 ∧ ∀ l ∈ fs, 1 ≤ l.length ∧ l.length ≤ 64 ∧ ∀ i ∈ l, okR g fs.length l.length i
def progV (g : Nat) (fs : List (List In)) (fa : Option Addr) (fc : Nat) : List Value := [i64 g, .slice fa fs.length fc]
theorem FnAt.fn {w : World} {S : Nat → Prop} {a : Option Addr} {c k : Nat} {fs : List (List In)} {l : List In} (h : FnAt w S a c fs) (hl : fs[k]? = some l) :
    ∃ b o pre post vs xa xc, a = some ⟨b, o, none⟩ ∧ At w b (B (pre ++ vs ++ post) 34) ∧ pre.length = o ∧ vs.length = fs.length ∧ vs[k]? = some (.slice xa l.length xc) ∧ MSl w S 33 4 xa xc (l.map inC) := by
  obtain ⟨ls, hls, ⟨vs, hvs, hv, hve⟩, hm⟩ := h
  have hfl := (List.getElem?_eq_some_iff.1 hl).1
  have hx0 : ls[k]? = some (ls[k]'(by omega)) := List.getElem?_eq_getElem _
  obtain ⟨b, o, pre, post, ha, h1, h2, h3⟩ := hv.open (by omega)
  exact ⟨b, o, pre, post, vs, _, _, ha, h2, h3, hvs, hve _ _ _ hx0 hl, hm _ _ _ hx0 hl⟩
theorem rmay_ok {w : World} {U : Nat → Prop} {fa : Option Addr} {fc g : Nat} {fs : List (List In)} (h : FnAt w U fa fc fs) (hok : okRP g fs) : Calls PP 48 #[.agg (progV g fs fa fc).toArray] w (Pure w (i64 0)) := by
  obtain ⟨hg, hn1, hn2, hl⟩ := hok
  refine calls_sem (fn := Tryz.f48) (args := [_]) Tryz.func48 rfl (by simp) (fun R hR => ?_)
  refine SEM.cut (X := Nat) 2 (fun b1 => [(1, pt b1)]) (fun b1 w' => At w' b1 (B (progV g fs fa fc) 30) ∧ Ext w w') rfl ?_ ?_
  · refine RUN.box (fun b1 w1 n1 => ?_)
    refine RUN.ld n1.here rfl (show _ = some (i64 g) from rfl) ?_
    refine CLt.no (by omega) ?_
    refine RUN.ld n1.here rfl (show _ = some (i64 g) from rfl) ?_
    refine CLt.no (by omega) ?_
    refine RUN.ld n1.here rfl (show _ = some (.slice fa fs.length fc) from rfl) ?_
    refine LEN.mk (fs.length : Int) rfl ?_
    refine CLt.no (by omega) ?_
    refine RUN.ld n1.here rfl (show _ = some (.slice fa fs.length fc) from rfl) ?_
    refine LEN.mk (fs.length : Int) rfl ?_
    refine CLt.no (by omega) ?_
    refine LOOP.inv (X := Nat) (fun k => [(1, pt b1), (3, i64 k)]) (fun k w' => k ≤ fs.length ∧ w' = w1) (fun k => fs.length - k) 0 ⟨rfl, rfl, trivial⟩ ⟨Nat.zero_le _, rfl⟩ ?_
    rintro k _ ⟨hk, rfl⟩ j
    refine RUN.ld n1.here rfl (show _ = some (.slice fa fs.length fc) from rfl) ?_
    refine LEN.mk (fs.length : Int) rfl ?_
    by_cases hlt : k < fs.length
    · obtain ⟨l, hkl⟩ : ∃ l, fs[k]? = some l := ⟨_, List.getElem?_eq_getElem hlt⟩
      have hll := hl l (List.mem_of_getElem? hkl)
      obtain ⟨b, o, pre, post, vs, xa, xc, rfl, q1, q2, q3, q4, q5⟩ := (FnAt.fm.ext h n1.ext).fn hkl
      refine CLt.yes (by omega) ?_
      refine RUN.ld n1.here rfl (show _ = some (.slice (some ⟨b, o, none⟩) fs.length fc) from rfl) ?_
      refine BD.mk (o + k * 1) ⟨by omega, by omega, rfl⟩ ?_
      refine RUN.ld (v := .slice xa l.length xc) q1 rfl (app_get q2 q4 rfl) ?_
      refine LEN.mk (l.length : Int) rfl ?_
      refine CLt.no (by omega) ?_
      refine RUN.ld n1.here rfl (show _ = some (.slice (some ⟨b, o, none⟩) fs.length fc) from rfl) ?_
      refine BD.mk (o + k * 1) ⟨by omega, by omega, rfl⟩ ?_
      refine RUN.ld (v := .slice xa l.length xc) q1 rfl (app_get q2 q4 rfl) ?_
      refine LEN.mk (l.length : Int) rfl ?_
      refine CLt.no (by omega) ?_
      refine ART.add (by omega) (fun r hr => ?_)
      subst hr
      refine Nxt.mk (k + 1) ?_ ?_ ?_
      · exact ⟨rfl, rfl, trivial⟩
      · exact ⟨hlt, rfl⟩
      · omega
    · refine CLt.no (by omega) ?_
      exact ⟨rfl, b1, ⟨rfl, trivial⟩, n1.here, n1.ext⟩
  rintro b1 w1 ⟨h1, x1⟩ j1
  refine SEM.of ?_
  refine LOOP.inv (X := Nat × Nat) (fun x => [(1, pt b1), (4, i64 x.2), (5, i64 x.1)]) (fun x w' => x.1 ≤ fs.length ∧ x.2 ≤ 64 * x.1 ∧ Ext w1 w') (fun x => fs.length - x.1) (0, 0) ⟨rfl, rfl, rfl, trivial⟩ ⟨Nat.zero_le _, Nat.zero_le _, Ext.refl _⟩ ?_
  rintro ⟨k, m⟩ w2 ⟨hk, hm, x2⟩ j2
  simp only at hk hm
  have h2 := x2.at h1
  refine RUN.ld h2 rfl (show _ = some (.slice fa fs.length fc) from rfl) ?_
  refine LEN.mk (fs.length : Int) rfl ?_
  by_cases hlt : k < fs.length
  · obtain ⟨l, hkl⟩ : ∃ l, fs[k]? = some l := ⟨_, List.getElem?_eq_getElem hlt⟩
    have hll := hl l (List.mem_of_getElem? hkl)
    obtain ⟨b, o, pre, post, vs, xa, xc, rfl, q1, q2, q3, q4, q5⟩ := (FnAt.fm.ext h (x1.trans' x2)).fn hkl
    refine CLt.yes (by omega) ?_
    refine LOOP.inv (X := Nat) (fun j => [(1, pt b1), (4, i64 ((m + j : Nat) : Int)), (5, i64 k), (6, i64 j)]) (fun j w' => j ≤ l.length ∧ Ext w2 w') (fun j => l.length - j) 0 ⟨rfl, rfl, rfl, rfl, trivial⟩ ⟨Nat.zero_le _, Ext.refl _⟩ ?_
    rintro j w3 ⟨hj, x3⟩ j3
    have h3 := x3.at h2
    have r1 := x3.at q1
    refine RUN.ld h3 rfl (show _ = some (.slice (some ⟨b, o, none⟩) fs.length fc) from rfl) ?_
    refine BD.mk (o + k * 1) ⟨by omega, by omega, rfl⟩ ?_
    refine RUN.ld (v := .slice xa l.length xc) r1 rfl (app_get q2 q4 rfl) ?_
    refine LEN.mk (l.length : Int) rfl ?_
    by_cases hjl : j < l.length
    · obtain ⟨i, hji⟩ : ∃ i, l[j]? = some i := ⟨_, List.getElem?_eq_getElem hjl⟩
      have hi := hll.2.2 i (List.mem_of_getElem? hji)
      have m3 := MSl.fm.ext q5 x3
      obtain ⟨ib, io, ipre, ipost, rfl, i1, i2, i3, i4⟩ := m3.open (by simp; omega)
      refine CLt.yes (by omega) ?_
      refine DRAW.q 19 (qs 19 0) (by kernel_rfl) (fun _ _ _ _ _ h => h) ?_
      refine RUNQ.ld h3 rfl (show _ = some (.slice (some ⟨b, o, none⟩) fs.length fc) from rfl) ?_
      refine BD.mk (o + k * 1) ⟨by omega, by omega, rfl⟩ ?_
      refine RUNQ.ld (v := .slice (some ⟨ib, io, none⟩) l.length xc) r1 rfl (app_get q2 q4 rfl) ?_
      refine BD.mk (io + j * 4) ⟨by omega, by omega, rfl⟩ ?_
      refine RUNQ.lda (vs := inC i) i2 rfl (mapp_len m3.1 i3 (by simpa using hjl) rfl) (mapp_row m3.1 i3 (by simp [hji]) rfl) ?_
      refine RUNQ.ld h3 rfl (show _ = some (i64 g) from rfl) ?_
      refine RUNQ.ld h3 rfl (show _ = some (.slice (some ⟨b, o, none⟩) fs.length fc) from rfl) ?_
      refine LEN.mk (fs.length : Int) rfl ?_
      refine RUNQ.ld h3 rfl (show _ = some (.slice (some ⟨b, o, none⟩) fs.length fc) from rfl) ?_
      refine BD.mk (o + k * 1) ⟨by omega, by omega, rfl⟩ ?_
      refine RUNQ.ld (v := .slice (some ⟨ib, io, none⟩) l.length xc) r1 rfl (app_get q2 q4 rfl) ?_
      refine LEN.mk (l.length : Int) rfl ?_
      intro w4 x4
      refine CALL.by (wrongR_ok hi w4) rfl ?_
      rintro e w5 ⟨rfl, x5⟩
      refine CLt.yes (by omega) ?_
      refine ART.add (by omega) (fun r hr => ?_)
      refine ART.add (by omega) (fun r2 hr2 => ?_)
      refine Nxt.mk (j + 1) ?_ ?_ ?_
      · exact ⟨rfl, by rw [hr]; show i64 _ = i64 _; congr 1, rfl, by rw [hr2]; rfl, trivial⟩
      · exact ⟨hjl, (x3.trans' x4).trans' x5⟩
      · omega
    · have hje : j = l.length := by omega
      refine CLt.no (by omega) ?_
      refine ART.add (by omega) (fun r hr => ?_)
      refine Nxt.mk ((k + 1, m + j)) ?_ ?_ ?_
      · exact ⟨rfl, rfl, by rw [hr]; rfl, trivial⟩
      · exact ⟨hlt, by show m + j ≤ 64 * (k + 1); omega, x2.trans' x3⟩
      · show fs.length - (k + 1) < fs.length - k
        omega
  · refine CLt.no (by omega) ?_
    exact hR _ _ ⟨rfl, x1.trans' x2⟩
end Go.E
end
/- A law's machine is made: what is asked first. -/
set_option linter.unusedVariables false
set_option linter.unusedSimpArgs false
set_option maxRecDepth 10000
noncomputable section
namespace Go.E
open Go Go.Proofs

theorem great_no {w : World} {U : Nat → Prop} {fa : Option Addr} {fc g : Nat} {fs : List (List In)} (h : FnAt w U fa fc fs) (hok : okRP g fs) : Calls PP 47 #[.agg (progV g fs fa fc).toArray] w (Pure w (.bool false)) := by
  obtain ⟨hg, hn1, hn2, hl⟩ := hok
  refine calls_den (fn := Tryz.f47) (args := [_]) Tryz.func47 rfl (by simp) (fun R hR => ?_)
  refine RUN.box (fun b1 w1 n1 => ?_)
  refine RUN.ld n1.here rfl (show _ = some (.slice fa fs.length fc) from rfl) ?_
  refine LEN.mk (fs.length : Int) rfl ?_
  refine LOOP.inv (X := Nat × Nat) (fun x => [(1, pt b1), (3, i64 x.2), (4, i64 x.1)]) (fun x w' => x.1 ≤ fs.length ∧ x.2 ≤ fs.length + 64 * x.1 ∧ w' = w1) (fun x => fs.length - x.1) (0, fs.length) ⟨rfl, rfl, rfl, trivial⟩ ⟨Nat.zero_le _, by simp, rfl⟩ ?_
  rintro ⟨k, m⟩ _ ⟨hk, hm, rfl⟩ j
  simp only at hk hm
  refine RUN.ld n1.here rfl (show _ = some (.slice fa fs.length fc) from rfl) ?_
  refine LEN.mk (fs.length : Int) rfl ?_
  by_cases hlt : k < fs.length
  · obtain ⟨l, hkl⟩ : ∃ l, fs[k]? = some l := ⟨_, List.getElem?_eq_getElem hlt⟩
    have hll := hl l (List.mem_of_getElem? hkl)
    obtain ⟨b, o, pre, post, vs, xa, xc, rfl, q1, q2, q3, q4, q5⟩ := (FnAt.fm.ext h n1.ext).fn hkl
    refine CLt.yes (by omega) ?_
    refine RUN.ld n1.here rfl (show _ = some (.slice (some ⟨b, o, none⟩) fs.length fc) from rfl) ?_
    refine BD.mk (o + k * 1) ⟨by omega, by omega, rfl⟩ ?_
    refine RUN.ld (v := .slice xa l.length xc) q1 rfl (app_get q2 q4 rfl) ?_
    refine LEN.mk (l.length : Int) rfl ?_
    refine ART.add (by omega) (fun r hr => ?_)
    refine ART.add (by omega) (fun r2 hr2 => ?_)
    refine Nxt.mk ((k + 1, m + l.length)) ?_ ?_ ?_
    · exact ⟨rfl, by rw [hr]; rfl, by rw [hr2]; rfl, trivial⟩
    · exact ⟨hlt, by show m + l.length ≤ fs.length + 64 * (k + 1); omega, rfl⟩
    · show fs.length - (k + 1) < fs.length - k
      omega
  · refine CLt.no (by omega) ?_
    refine CLt.no (by omega) ?_
    exact hR _ _ ⟨rfl, n1.ext⟩
/-- How a configuration is made to fit. -/
def fitPs (ps : Int) : Int := 1 + (IntKind.wrap .u64 ps) % 6
def fitWords (words : Int) : Int := 256 + 64 * ((IntKind.wrap .u64 words) % 16)
theorem u64_bd (x : Int) : 0 ≤ IntKind.wrap .u64 x ∧ IntKind.wrap .u64 x ≤ 18446744073709551615 := by
  simp [IntKind.wrap, IntKind.bits, IntKind.signed]
  omega
theorem fit_in (ps words : Int) (f1 f2 : Nat) (w : World) : Calls PP 50 #[.agg #[i64 ps, i64 words, .float .f64 f1, .float .f64 f2]] w (Pure w (.agg #[i64 (fitPs ps), i64 (fitWords words), .float .f64 f1, .float .f64 f2])) := by
  have h1 := u64_bd ps
  have h2 := u64_bd words
  refine calls_den (fn := Tryz.f50) (args := [_]) Tryz.func50 rfl (by simp) (fun R hR => ?_)
  refine RUN.box (fun b1 w1 n1 => ?_)
  refine RUN.alloc rfl rfl (fun b2 w2 n2 => ?_)
  have f1' : At w2 b1 (B [i64 ps, i64 words, .float .f64 f1, .float .f64 f2] 24) := n2.at n1.here
  refine RUN.ld f1' rfl (show _ = some (i64 ps) from rfl) ?_
  refine CVI.mk (IntKind.wrap .u64 ps) rfl ?_
  refine ART.urem (by omega) (by omega) (by omega) (fun r1 g1 => ?_)
  refine CVI.i64 (by omega) (fun r2 g2 => ?_)
  refine ART.add (by omega) (fun r3 g3 => ?_)
  have e3 : r3 = fitPs ps := by unfold fitPs; omega
  subst e3
  refine RUN.sti f1' rfl (by simp) (fun w3 u3 => ?_)
  have f3 : At w3 b1 (B [i64 (fitPs ps), i64 words, .float .f64 f1, .float .f64 f2] 24) := u3.here
  refine RUN.ld f3 rfl (show _ = some (i64 words) from rfl) ?_
  refine CVI.mk (IntKind.wrap .u64 words) rfl ?_
  refine ART.urem (by omega) (by omega) (by omega) (fun r4 g4 => ?_)
  refine CVI.i64 (by omega) (fun r5 g5 => ?_)
  refine ART.mul (by omega) (fun r6 g6 => ?_)
  refine ART.add (by omega) (fun r7 g7 => ?_)
  have e7 : r7 = fitWords words := by unfold fitWords; omega
  subst e7
  refine RUN.sti f3 rfl (by simp) (fun w4 u4 => ?_)
  have f4 : At w4 b1 (B [i64 (fitPs ps), i64 (fitWords words), .float .f64 f1, .float .f64 f2] 24) := u4.here
  have hne : b1 ≠ b2 := n2.ne n1.here
  refine RUN.lda (vs := [i64 (fitPs ps), i64 (fitWords words), .float .f64 f1, .float .f64 f2]) f4 rfl (Nat.le_of_ble_eq_true rfl) rfl ?_
  have x4 : Ext w w4 := (n1.ext.trans' n2.ext).trans (Ch.upd (Ch.upd (Ch.refl (fun y => y = b1) _) u3 (.inl rfl)) u4 (.inl rfl)) (fun y hy hh => by have := n1.blk; omega)
  refine RUN.sta (vs := [i64 (fitPs ps), i64 (fitWords words), .float .f64 f1, .float .f64 f2]) (u4.at (u3.at n2.here (Ne.symm hne)) (Ne.symm hne)) rfl (by simp) (by simp [Value.oneCell']) (fun w5 u5 => ?_)
  refine RUN.lda (vs := [i64 (fitPs ps), i64 (fitWords words), .float .f64 f1, .float .f64 f2]) u5.here rfl (Nat.le_of_ble_eq_true rfl) rfl ?_
  refine ⟨rfl, hR _ _ ⟨rfl, x4.trans u5.ch (fun y hy hh => ?_)⟩⟩
  have := n2.blk
  have := n1.ext.size
  omega
theorem fit_bd (ps words : Int) : (1 ≤ fitPs ps ∧ fitPs ps ≤ 6) ∧ ∃ n, fitWords words = 64 * n ∧ 4 ≤ n ∧ n ≤ 19 := by
  unfold fitPs fitWords
  exact ⟨by omega, 4 + (IntKind.wrap .u64 words) % 16, by omega, by omega, by omega⟩
end Go.E
end
/- A program is written in bytes. -/
set_option linter.unusedVariables false
set_option linter.unusedSimpArgs false
set_option maxRecDepth 10000
noncomputable section
namespace Go.E
open Go Go.Proofs

theorem CVI.u8 {K : Int → Prop} {x : Nat} (h : x < 256) (k : K x) : CVI .u8 (x : Int) K := by
  refine .mk (x : Int) ?_ k
  simp [IntKind.wrap, IntKind.bits, IntKind.signed]
  omega
theorem u8s_app (a b : List Nat) : u8s (a ++ b) = u8s a ++ u8s b := by simp [u8s]
theorem u8s_one (l : List Nat) : ∀ v ∈ u8s l, v.oneCell' = true := by
  intro v hv
  obtain ⟨x, _, rfl⟩ := List.mem_map.1 hv
  rfl
def encK (g : Nat) (fs : List (List In)) (k : Nat) : List Nat := [fs.length, g] ++ ((fs.take k).map encF).flatten
def encJ (l : List In) (j : Nat) : List Nat := l.length :: ((l.take j).map encI).flatten
theorem encK_end (g : Nat) (fs : List (List In)) : encK g fs fs.length = encP g fs := by simp [encK, encP]
theorem encK_next {g k : Nat} {fs : List (List In)} {l : List In} (h : fs[k]? = some l) : encK g fs (k + 1) = encK g fs k ++ encJ l l.length := by
  obtain ⟨hl, he⟩ := List.getElem?_eq_some_iff.1 h
  unfold encK encJ
  rw [List.take_succ_eq_append_getElem hl, he]
  simp [encF]
theorem encJ_next {l : List In} {j : Nat} {i : In} (h : l[j]? = some i) : encJ l (j + 1) = encJ l j ++ encI i := by
  obtain ⟨hl, he⟩ := List.getElem?_eq_some_iff.1 h
  unfold encJ
  rw [List.take_succ_eq_append_getElem hl, he]
  simp
theorem encK_len {g k : Nat} {fs : List (List In)} (hl : ∀ l ∈ fs, 1 ≤ l.length ∧ l.length ≤ 64 ∧ ∀ i ∈ l, okR g fs.length l.length i) (hk : k ≤ fs.length) : (u8s (encK g fs k)).length ≤ 2 + 257 * k := by
  rw [u8s_len]
  induction k with
  | zero => simp [encK]
  | succ k ih =>
    have hkl : fs[k]? = some fs[k] := List.getElem?_eq_getElem hk
    rw [encK_next hkl, List.length_append]
    have := ih (by omega)
    have h2 := (hl _ (List.getElem_mem hk)).2.1
    have h3 : (encJ fs[k] fs[k].length).length = 1 + 4 * fs[k].length := by
      unfold encJ
      rw [List.take_length, List.length_cons, encI_flat]
      omega
    omega
def byI (i : In) : Prop := i.op < 256 ∧ i.a < 256 ∧ i.b < 256 ∧ i.c < 256
theorem encode_in {w : World} {U : Nat → Prop} {fa : Option Addr} {fc g : Nat} {fs : List (List In)} (h : FnAt w U fa fc fs) (hok : okRP g fs) (hby : ∀ l ∈ fs, ∀ i ∈ l, byI i) :
    Calls PP 83 #[.agg (progV g fs fa fc).toArray] w (Pure w (.tuple #[.string (strB (encP g fs)), i64 0])) := by
  obtain ⟨hg, hn1, hn2, hl⟩ := id hok
  refine calls_den (fn := Tryz.f83) (args := [_]) Tryz.func83 rfl (by simp) (fun R hR => ?_)
  refine RUN.box (fun b1 w1 n1 => ?_)
  refine RUN.lda (vs := progV g fs fa fc) n1.here rfl (Nat.le_of_ble_eq_true rfl) rfl ?_
  refine CALL.by (rmay_ok (FnAt.fm.ext h n1.ext) hok) rfl ?_
  rintro e w2 ⟨rfl, x2⟩
  have f1 : At w2 b1 (B (progV g fs fa fc) 30) := x2.at n1.here
  refine CEq.yes (rfl) ?_
  refine RUN.ld f1 rfl (show _ = some (.slice fa fs.length fc) from rfl) ?_
  refine LEN.mk (fs.length : Int) rfl ?_
  refine CVI.u8 (by omega) ?_
  refine RUN.ld f1 rfl (show _ = some (i64 g) from rfl) ?_
  refine CVI.u8 (by omega) ?_
  refine RUN.buildSlice rfl rfl rfl rfl rfl rfl rfl (fun b3 w3 n3 => ?_)
  have x13 : Ext w w3 := (n1.ext.trans' x2).trans' n3.ext
  have f3 := n3.at f1
  have v3 : VS w3 (fun y => w2.heap.size ≤ y) 5 (some ⟨b3, 0, none⟩) 2 (u8s (encK g fs 0)) := VS.of_new n3 _ (by have := n3.blk; omega)
  refine LOOP.inv (X := Nat × Option Addr × Nat) (fun x => [(1, pt b1), (4, .slice x.2.1 (u8s (encK g fs x.1)).length x.2.2), (5, i64 x.1)]) (fun x w' => x.1 ≤ fs.length ∧ VS w' (fun y => w2.heap.size ≤ y) 5 x.2.1 x.2.2 (u8s (encK g fs x.1)) ∧ Ext w2 w') (fun x => fs.length - x.1) (0, some ⟨b3, 0, none⟩, 2) ⟨rfl, rfl, rfl, trivial⟩ ⟨Nat.zero_le _, v3, n3.ext⟩ ?_
  rintro ⟨k, a, c⟩ w4 ⟨hk, v4, x4⟩ j4
  simp only at hk v4
  have f4 := x4.at f1
  have x04 := (n1.ext.trans' x2).trans' x4
  have hKl : (u8s (encK g fs k)).length ≤ 2 + 257 * k := encK_len hl hk
  refine RUN.ld f4 rfl (show _ = some (.slice fa fs.length fc) from rfl) ?_
  refine LEN.mk (fs.length : Int) rfl ?_
  by_cases hlt : k < fs.length
  · obtain ⟨l, hkl⟩ : ∃ l, fs[k]? = some l := ⟨_, List.getElem?_eq_getElem hlt⟩
    have hll := hl l (List.mem_of_getElem? hkl)
    obtain ⟨b, o, pre, post, vs, xa, xc, rfl, q1, q2, q3, q4, q5⟩ := (FnAt.fm.ext h x04).fn hkl
    refine CLt.yes (by omega) ?_
    refine RUN.ld f4 rfl (show _ = some (.slice (some ⟨b, o, none⟩) fs.length fc) from rfl) ?_
    refine BD.mk (o + k * 1) ⟨by omega, by omega, rfl⟩ ?_
    refine RUN.ld (v := .slice xa l.length xc) q1 rfl (app_get q2 q4 rfl) ?_
    refine LEN.mk (l.length : Int) rfl ?_
    refine CVI.u8 (by omega) ?_
    refine RUN.buildSlice rfl rfl rfl rfl rfl rfl rfl (fun b5 w5 n5 => ?_)
    have vx : VS w5 (fun y => y = b5) 5 (some ⟨b5, 0, none⟩) 1 (u8s (encJ l 0)) := VS.of_new n5 _ rfl
    refine RUN.vapp (VS.fm.ext v4 n5.ext) vx rfl rfl rfl rfl rfl (u8s_one _) (by rw [show (u8s (encJ l 0)).length = 1 by simp [u8s, encJ]]; omega) rfl (fun a6 c6 w6 hv6 hc6 => ?_)
    obtain ⟨S6, o6, v6⟩ := hv6
    have e24 := x4.size
    have e45 := n5.ext.size
    have v6' : VS w6 (fun y => w2.heap.size ≤ y) 5 a6 c6 (u8s (encK g fs k ++ encJ l 0)) := by
      rw [u8s_app]
      exact VS.fm.mono v6 fun y _ hy => by rcases o6 y hy with h | h <;> omega
    rw [← u8s_app]
    have x26 : Ext w2 w6 := (x4.trans' n5.ext).trans hc6 (fun y hy hh => by omega)
    refine LOOP.inv (X := Nat × Option Addr × Nat) (fun x => [(1, pt b1), (4, .slice x.2.1 (u8s (encK g fs k ++ encJ l x.1)).length x.2.2), (5, i64 k), (6, i64 x.1)]) (fun x w' => x.1 ≤ l.length ∧ VS w' (fun y => w2.heap.size ≤ y) 5 x.2.1 x.2.2 (u8s (encK g fs k ++ encJ l x.1)) ∧ Ext w2 w') (fun x => l.length - x.1) (0, a6, c6) ⟨rfl, rfl, rfl, rfl, trivial⟩ ⟨Nat.zero_le _, v6', x26⟩ ?_
    rintro ⟨j, a, c⟩ w7 ⟨hj, v7, x7⟩ j7
    simp only at hj v7
    have f7 := x7.at f1
    obtain ⟨b', o', pre, post, vs, xa, xc, hfa, q1, q2, q3, q4, q5⟩ := (FnAt.fm.ext h ((n1.ext.trans' x2).trans' x7)).fn hkl
    cases hfa
    refine RUN.ld f7 rfl (show _ = some (.slice (some ⟨b, o, none⟩) fs.length fc) from rfl) ?_
    refine BD.mk (o + k * 1) ⟨by omega, by omega, rfl⟩ ?_
    refine RUN.ld (v := .slice xa l.length xc) q1 rfl (app_get q2 q4 rfl) ?_
    refine LEN.mk (l.length : Int) rfl ?_
    by_cases hjl : j < l.length
    · obtain ⟨i, hji⟩ : ∃ i, l[j]? = some i := ⟨_, List.getElem?_eq_getElem hjl⟩
      obtain ⟨y0, y1, y2, y3⟩ := hby l (List.mem_of_getElem? hkl) i (List.mem_of_getElem? hji)
      obtain ⟨ib, io, ipre, ipost, rfl, i1, i2, i3, i4⟩ := q5.open (by simp; omega)
      refine CLt.yes (by omega) ?_
      refine RUN.ld f7 rfl (show _ = some (.slice (some ⟨b, o, none⟩) fs.length fc) from rfl) ?_
      refine BD.mk (o + k * 1) ⟨by omega, by omega, rfl⟩ ?_
      refine RUN.ld (v := .slice (some ⟨ib, io, none⟩) l.length xc) q1 rfl (app_get q2 q4 rfl) ?_
      refine BD.mk (io + j * 4) ⟨by omega, by omega, rfl⟩ ?_
      refine RUN.lda (vs := inC i) i2 rfl (mapp_len q5.1 i3 (by simpa using hjl) rfl) (mapp_row q5.1 i3 (by simp [hji]) rfl) ?_
      refine RUN.alloc rfl rfl (fun b8 w8 n8 => ?_)
      refine RUN.sta (vs := inC i) n8.here rfl (by simp [inC]) (by simp [inC, Value.oneCell']) (fun w9 u9 => ?_)
      have g9 : At w9 b8 (B (inC i) 33) := u9.here
      refine RUN.ld g9 rfl (show _ = some (i64 i.op) from rfl) ?_
      refine CVI.u8 y0 ?_
      refine RUN.ld g9 rfl (show _ = some (i64 i.a) from rfl) ?_
      refine CVI.u8 y1 ?_
      refine RUN.ld g9 rfl (show _ = some (i64 i.b) from rfl) ?_
      refine CVI.u8 y2 ?_
      refine RUN.ld g9 rfl (show _ = some (i64 i.c) from rfl) ?_
      refine CVI.u8 y3 ?_
      refine RUN.buildSlice rfl rfl rfl rfl rfl rfl rfl (fun ba wa na => ?_)
      have z7 := x7.size
      have z8 := n8.ext.size
      have z9 := u9.size
      have l8 := n8.blk
      have la := na.blk
      have x79 : Ext w7 w9 := n8.ext.trans u9.ch (fun y hy hb => by omega)
      have x7a : Ext w7 wa := x79.trans' na.ext
      have vx : VS wa (fun y => y = ba) 5 (some ⟨ba, 0, none⟩) 4 (u8s (encI i)) := VS.of_new na _ rfl
      have hJl : (u8s (encK g fs k ++ encJ l j)).length ≤ 2 ^ 20 := by
        have e1 : (u8s (encJ l j)).length ≤ 257 := by
          unfold encJ
          rw [u8s_len, List.length_cons, encI_flat, List.length_take]
          omega
        rw [u8s_app, List.length_append]
        omega
      refine RUN.vapp (VS.fm.ext v7 x7a) vx rfl rfl rfl rfl rfl (u8s_one _) (by rw [show (u8s (encI i)).length = 4 from rfl]; omega) rfl (fun ab cb wb hvb hcb => ?_)
      obtain ⟨Sb, ob, vb⟩ := hvb
      have za := x7a.size
      rw [← u8s_app, List.append_assoc, ← encJ_next hji] at vb ⊢
      refine ART.add (by omega) (fun r hr => ?_)
      subst hr
      refine Nxt.mk ((j + 1, ab, cb)) ?_ ?_ ?_
      · exact ⟨rfl, rfl, rfl, rfl, trivial⟩
      · exact ⟨hjl, VS.fm.mono vb fun y _ hy => by rcases ob y hy with h | h <;> omega, (x7.trans' x7a).trans hcb (fun y hy hh => by omega)⟩
      · omega
    · have hje : j = l.length := by omega
      subst hje
      refine CLt.no (by omega) ?_
      refine ART.add (by omega) (fun r hr => ?_)
      subst hr
      rw [← encK_next hkl] at v7 ⊢
      refine Nxt.mk ((k + 1, a, c)) ?_ ?_ ?_
      · exact ⟨rfl, rfl, rfl, trivial⟩
      · exact ⟨hlt, v7, x7⟩
      · show fs.length - (k + 1) < fs.length - k
        omega
  · have hke : k = fs.length := by omega
    subst hke
    refine CLt.no (by omega) ?_
    have hbs : BS w4 (fun y => w2.heap.size ≤ y) a c (encK g fs fs.length) := BS.of v4 (by rw [u8s_len]; simp [encK])
    refine RUN.toStr hbs ?_
    rw [encK_end]
    exact hR _ _ ⟨rfl, x04⟩
end Go.E
end
