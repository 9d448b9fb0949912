/- Who is next. -/
import Derived.Test.YtnbekdcepnfpaaaGreatDoorG07
set_option linter.unusedVariables false
set_option linter.unusedSimpArgs false
set_option maxRecDepth 10000
noncomputable section
namespace Go.E
open Go Go.Proofs

/-- The cells of pointers. -/
def pts (l : List Nat) : List Value := l.map pt
theorem pts_get {l : List Nat} {i b : Nat} (h : l[i]? = some b) : (pts l)[i]? = some (pt b) := by simp [pts, h]
theorem pts_len (l : List Nat) : (pts l).length = l.length := by simp [pts]
theorem pts_one (l : List Nat) : ∀ v ∈ pts l, v.oneCell' = true := by
  intro v hv
  obtain ⟨x, _, rfl⟩ := List.mem_map.1 hv
  rfl
theorem pts_app (l k : List Nat) : pts (l ++ k) = pts l ++ pts k := by simp [pts]
/-- Rings side by side. -/
def RsAt (w : World) (S : Nat → Prop) (rbs : List Nat) (rows : List (List Int)) : Prop :=
  rbs.length = rows.length ∧ rbs.Nodup ∧ ∀ (i r : Nat) (row : List Int), rbs[i]? = some r → rows[i]? = some row → RgAt w S r row
theorem RsAt.fm {rbs : List Nat} {rows : List (List Int)} : Fm (fun w S => RsAt w S rbs rows) := by
  rintro w w' S S' ⟨h1, h2, h3⟩ hf
  exact ⟨h1, h2, fun i r row hr hrow => RgAt.fm w w' S S' (h3 i r row hr hrow) hf⟩
theorem nodup_ne {l : List Nat} (h : l.Nodup) {i j a b : Nat} (hi : l[i]? = some a) (hj : l[j]? = some b) (hne : i ≠ j) : a ≠ b := by
  rintro rfl
  exact hne ((List.getElem?_inj (List.getElem?_eq_some_iff.1 hi).1 h).1 (hi.trans hj.symm))
/-- One ring has turned. -/
theorem RsAt.set {w w' : World} {S : Nat → Prop} {rbs : List Nat} {rows : List (List Int)} {i b : Nat} {row : List Int} (h : RsAt w S rbs rows) (hi : rbs[i]? = some b) (hr : RgAt w' S b row) (hc : Ch (fun y => y = b) w w') :
    RsAt w' S rbs (rows.set i row) := by
  obtain ⟨h1, h2, h3⟩ := h
  refine ⟨by simpa using h1, h2, fun k r row' hk hrow => ?_⟩
  by_cases hik : k = i
  · subst hik
    rw [hi] at hk
    cases hk
    have hl : k < rows.length := by rw [← h1]; exact (List.getElem?_eq_some_iff.1 hi).1
    rw [List.getElem?_set_self hl] at hrow
    cases hrow
    exact hr
  · rw [List.getElem?_set_ne (Ne.symm hik)] at hrow
    exact (h3 k r row' hk hrow).ch1 hc (nodup_ne h2 hk hi hik)
def ScAt (w : World) (S : Nat → Prop) (b : Nat) (rows : List (List Int)) (common : List Int) : Prop :=
  S b ∧ ∃ (col : Nat → Nat) (a : Option Addr) (c : Nat) (rbs : List Nat) (qb : Nat), col b = 0 ∧ At w b (B [.slice a (pts rbs).length c, pt qb] 193) ∧
    VS w (fun y => S y ∧ col y = 1) 194 a c (pts rbs) ∧ RsAt w (fun y => S y ∧ col y = 2) rbs rows ∧ QAt w (fun y => S y ∧ col y = 3) qb common
theorem ScAt.fm {b : Nat} {rows : List (List Int)} {common : List Int} : Fm (fun w S => ScAt w S b rows common) := by
  rintro w w' S S' ⟨h0, col, a, c, rbs, qb, h1, h2, h3, h4, h5⟩ hf
  refine ⟨(hf b h2.lt h0).2, col, a, c, rbs, qb, h1, (hf b h2.lt h0).1.trans h2, VS.fm w w' _ _ h3 ?_, RsAt.fm w w' _ _ h4 ?_, QAt.fm w w' _ _ h5 ?_⟩
  all_goals
    intro y hy hs
    exact ⟨(hf y hy hs.1).1, (hf y hy hs.1).2, hs.2⟩
theorem has_in {w : World} {S : Nat → Prop} {b : Nat} {rows : List (List Int)} {common : List Int} {p : Int} (h : ScAt w S b rows common) :
    Calls PP 149 #[pt b, i64 p] w (Pure w (.bool (decide (0 ≤ p ∧ p < rows.length)))) := by
  obtain ⟨h0, col, a, c, rbs, qb, h1, h2, h3, h4, h5⟩ := h
  have hl : (pts rbs).length = rows.length := by rw [pts_len, h4.1]
  refine calls_den (fn := Tryz.f149) (args := [_, _]) Tryz.func149 rfl (by simp) (fun R hR => ?_)
  by_cases hp : p < 0
  · refine CLt.yes (by omega) ?_
    exact hR _ _ ⟨congrArg (fun b => Ending.returned (.bool b)) (by simp; omega), Ext.refl w⟩
  · refine CLt.no (by omega) ?_
    refine RUN.ld h2 rfl (rfl) ?_
    refine LEN.mk (rows.length : Int) (by rw [hl]) ?_
    by_cases hq : p < rows.length
    · refine CLt.yes (hq) ?_
      exact hR _ _ ⟨congrArg (fun b => Ending.returned (.bool b)) (by simp; omega), Ext.refl w⟩
    · refine CLt.no (hq) ?_
      exact hR _ _ ⟨congrArg (fun b => Ending.returned (.bool b)) (by simp; omega), Ext.refl w⟩
/-- A part and what is new. -/
def Nw (w : World) (S : Nat → Prop) (y : Nat) : Prop := S y ∨ w.heap.size ≤ y
theorem Nw.own (w : World) (S : Nat → Prop) : Own w S (Nw w S) := fun y h => h
/-- The colours, with a colour for what is new. -/
def ncol (w : World) (col : Nat → Nat) (k : Nat) (y : Nat) : Nat := if y < w.heap.size then col y else k
theorem ncol_old {w : World} {col : Nat → Nat} {k y : Nat} (h : y < w.heap.size) : ncol w col k y = col y := if_pos h
theorem ncol_new {w : World} {col : Nat → Nat} {k y : Nat} (h : w.heap.size ≤ y) : ncol w col k y = k := if_neg (by omega)
/-- A goroutine is put into a ring. -/
theorem ready_in {w : World} {S : Nat → Prop} {b : Nat} {rows : List (List Int)} {common row : List Int} {p g : Int} (h : ScAt w S b rows common) (hp : 0 ≤ p) (hrow : rows[p.toNat]? = some row) (hcl : common.length ≤ 2 ^ 30) :
    Calls PP 103 #[pt b, i64 p, i64 g, .bool false] w (fun e w' => e = .returned (i64 0) ∧ ScAt w' (Nw w S) b (rows.set p.toNat (rput row g).1) (common ++ (rput row g).2) ∧ Ch S w w') := by
  replace h := ScAt.fm.mono h (S' := fun y => S y ∧ y < w.heap.size) (fun y hy hs => ⟨hs, hy⟩)
  have hh := h
  obtain ⟨h0, col, a, c, rbs, qb, h1, h2, h3, h4, h5⟩ := h
  have hpl : p.toNat < rows.length := (List.getElem?_eq_some_iff.1 hrow).1
  have hrl : rbs.length = rows.length := h4.1
  obtain ⟨rb, hrb⟩ : ∃ rb, rbs[p.toNat]? = some rb := ⟨rbs[p.toNat]'(by omega), List.getElem?_eq_getElem (by omega)⟩
  have hrg := h4.2.2 _ _ _ hrb hrow
  refine calls_den (fn := Tryz.f103) (args := [_, _, _, _]) Tryz.func103 rfl (by simp) (fun R hR => ?_)
  refine CALL.by (has_in hh) rfl ?_
  rintro e w1 ⟨rfl, x1⟩
  rw [decide_eq_true (by omega : 0 ≤ p ∧ p < rows.length)]
  replace h2 := x1.at h2
  replace h3 := VS.fm.ext h3 x1
  replace h4 := RsAt.fm.ext h4 x1
  replace h5 := QAt.fm.ext h5 x1
  replace hrg := RgAt.fm.ext hrg x1
  have hneb : rb ≠ b := by rintro rfl; have := hrg.1.2; omega
  have h3v := h3
  obtain ⟨sb, so, pre, post, rfl, r1, r2, r3⟩ := h3.open (by rw [pts_len]; omega)
  refine DRAW.k 14 [(0, .q), (1, .q), (2, .q), (3, .q), (4, .q), (5, .q), (6, .q), (7, .q), (8, .q), (9, .q), (10, .q), (11, .q), (12, .q), (13, .s)] [b, sb] (by kernel_rfl) (fun _ _ _ _ _ h => h) ?_
  refine RUNQ.kld h2 (by simp) rfl (rfl) ?_
  refine RUNQ.kld h2 (by simp) rfl (rfl) ?_
  refine BD.mk (so + p.toNat * 1) ⟨hp, by rw [pts_len]; omega, rfl⟩ ?_
  refine RUNQ.kld r2 (by simp) rfl ((app_get r3 (pts_get hrb) rfl)) ?_
  intro w2 x2 _
  refine CALL.by (rput_in (RgAt.fm.ext hrg x2)) rfl ?_
  rintro e w3 ⟨⟨a3, c3, rfl, v3⟩, g3, ch3⟩
  have hnesb : rb ≠ sb := by rintro rfl; have := hrg.1.2; have := r1.2; omega
  refine ⟨Keep.ch ⟨x2.size, fun y _ hy => x2.old y hy id⟩ ch3 (fun y hy _ => ?_), ?_⟩
  · simp at hy
    rcases hy with rfl | rfl
    · exact Ne.symm hneb
    · exact Ne.symm hnesb
  intro w4 x4
  have s1 := x1.size
  have s2 := x2.size
  have s3 := ch3.size
  have s4 := x4.size
  have hq := QAt.fm.ext (QAt.fm.ch (QAt.fm.ext h5 x2) ch3 (fun y hy hs => by rintro rfl; have := hrg.1.2; have := hs.2; omega)) x4
  refine CALL.by (qput_in hq (VS.fm.ext v3 x4) (by unfold rput; split <;> simp <;> omega)) rfl ?_
  rintro e w5 ⟨rfl, ⟨S5, o5, q5⟩, c5⟩
  have hr4 : RsAt w4 (fun y => (S y ∧ y < w.heap.size) ∧ col y = 2) rbs (rows.set p.toNat (rput row g).1) := RsAt.fm.ext (RsAt.set (RsAt.fm.ext h4 x2) hrb g3 ch3) x4
  have hv4 := VS.fm.ext (VS.fm.ch (VS.fm.ext h3v x2) ch3 (fun y hy hs => by rintro rfl; have := hrg.1.2; have := hs.2; omega)) x4
  have hb4 := x4.at (ch3.at (x2.at h2) (Ne.symm hneb))
  refine hR _ _ ⟨rfl, ⟨.inl h0.1, ncol w col 3, _, c, rbs, qb, by rw [ncol_old h0.2]; exact h1, c5.at hb4 (fun hh => by have := hh.2; omega), VS.fm.to hv4 c5 ?_, RsAt.fm.to hr4 c5 ?_, QAt.fm.mono q5 ?_⟩, ?_⟩
  · exact fun y hy hs => ⟨fun hu => by have := hu.2; have := hs.2; omega, .inl hs.1.1, by rw [ncol_old hs.1.2]; exact hs.2⟩
  · exact fun y hy hs => ⟨fun hu => by have := hu.2; have := hs.2; omega, .inl hs.1.1, by rw [ncol_old hs.1.2]; exact hs.2⟩
  · intro y hy hs
    rcases o5 y hs with hs | hs
    · exact ⟨.inl hs.1.1, by rw [ncol_old hs.1.2]; exact hs.2⟩
    · exact ⟨.inr (by omega), ncol_new (by omega)⟩
  · exact .sub (.ext (.sub (.toS (x1.trans' x2)) ch3 (by rintro y rfl; exact .inl hrg.1.1.1)) x4) c5 (fun y hy => .inl hy.1.1)
theorem common_in {w : World} {S : Nat → Prop} {b : Nat} {rows : List (List Int)} {common : List Int} (h : ScAt w S b rows common) (hcl : common.length ≤ 2 ^ 30) :
    Calls PP 167 #[pt b] w (fun e w' => (∃ a c, e = .returned (.slice a (ints common).length c) ∧ VS w' (fun y => w.heap.size ≤ y) 3 a c (ints common)) ∧ Ext w w') := by
  obtain ⟨h0, col, a, c, rbs, qb, h1, h2, h3, h4, h5⟩ := h
  refine calls_den (fn := Tryz.f167) (args := [_]) Tryz.func167 rfl (by simp) (fun R hR => ?_)
  refine RUN.ld h2 rfl (rfl) ?_
  refine CALL.by (qall_in h5 (by omega)) rfl ?_
  rintro e w2 ⟨⟨a2, c2, rfl, v2⟩, x2⟩
  exact hR _ _ ⟨⟨a2, c2, rfl, v2⟩, x2⟩
theorem local_in {w : World} {S : Nat → Prop} {b : Nat} {rows : List (List Int)} {common row : List Int} {p : Int} (h : ScAt w S b rows common) (hp : 0 ≤ p) (hrow : rows[p.toNat]? = some row) :
    Calls PP 166 #[pt b, i64 p] w (fun e w' => (∃ a c, e = .returned (.slice a (ints row).length c) ∧ VS w' (fun y => w.heap.size ≤ y) 3 a c (ints row)) ∧ Ext w w') := by
  have hh := h
  obtain ⟨h0, col, a, c, rbs, qb, h1, h2, h3, h4, h5⟩ := h
  have hpl : p.toNat < rows.length := (List.getElem?_eq_some_iff.1 hrow).1
  have hrl : rbs.length = rows.length := h4.1
  obtain ⟨rb, hrb⟩ : ∃ rb, rbs[p.toNat]? = some rb := ⟨rbs[p.toNat]'(by omega), List.getElem?_eq_getElem (by omega)⟩
  have hrg := h4.2.2 _ _ _ hrb hrow
  obtain ⟨sb, so, pre, post, rfl, r1, r2, r3⟩ := h3.open (by rw [pts_len]; omega)
  refine calls_den (fn := Tryz.f166) (args := [_, _]) Tryz.func166 rfl (by simp) (fun R hR => ?_)
  refine CALL.by (has_in hh) rfl ?_
  rintro e w1 ⟨rfl, x1⟩
  rw [decide_eq_true (by omega : 0 ≤ p ∧ p < rows.length)]
  refine RUN.ld (x1.at h2) rfl (rfl) ?_
  refine BD.mk (so + p.toNat * 1) ⟨hp, by rw [pts_len]; omega, rfl⟩ ?_
  refine RUN.ld (x1.at r2) rfl ((app_get r3 (pts_get hrb) rfl)) ?_
  refine CALL.by (rall_in (RgAt.fm.ext hrg x1)) rfl ?_
  rintro e w2 ⟨⟨a2, c2, rfl, v2⟩, x2⟩
  have := x1.size
  exact hR _ _ ⟨⟨a2, c2, rfl, VS.fm.mono v2 fun y _ hy => by omega⟩, x1.trans' x2⟩
theorem ScAt.join {w0 w : World} {S S5 : Nat → Prop} {b qb c : Nat} {a : Option Addr} {rbs : List Nat} {col : Nat → Nat} {rows : List (List Int)} {common : List Int} (h0 : S b ∧ b < w0.heap.size) (h1 : col b = 0) (h2 : At w b (B [.slice a (pts rbs).length c, pt qb] 193))
    (h3 : VS w (fun y => (S y ∧ y < w0.heap.size) ∧ col y = 1) 194 a c (pts rbs)) (h4 : RsAt w (fun y => (S y ∧ y < w0.heap.size) ∧ col y = 2) rbs rows) (h5 : QAt w S5 qb common) (ho : ∀ y, S5 y → ((S y ∧ y < w0.heap.size) ∧ col y = 3) ∨ w0.heap.size ≤ y) :
    ScAt w (Nw w0 S) b rows common := by
  refine ⟨.inl h0.1, ncol w0 col 3, a, c, rbs, qb, by rw [ncol_old h0.2]; exact h1, h2, VS.fm.mono h3 ?_, RsAt.fm.mono h4 ?_, QAt.fm.mono h5 ?_⟩
  · exact fun y hy hs => ⟨.inl hs.1.1, by rw [ncol_old hs.1.2]; exact hs.2⟩
  · exact fun y hy hs => ⟨.inl hs.1.1, by rw [ncol_old hs.1.2]; exact hs.2⟩
  · intro y hy hs
    rcases ho y hs with hs | hs
    · exact ⟨.inl hs.1.1, by rw [ncol_old hs.1.2]; exact hs.2⟩
    · exact ⟨.inr hs, ncol_new hs⟩
/-- Every 61st turn those in common go first. -/
theorem fair_no {w : World} {S : Nat → Prop} {b b4 b6 : Nat} {rows : List (List Int)} {common : List Int} {tick : Int} (h : ScAt w S b rows common) (k4 : At w b4 (B [pt b] 105)) (k6 : At w b6 (B [i64 tick] 3)) (ht : 0 ≤ tick) (hno : ¬ (tick ≠ 0 ∧ tick % 61 = 0 ∧ common ≠ [])) :
    Calls PP 233 #[pt b6, pt b4] w (Pure w (.tuple #[i64 0, .bool false])) := by
  obtain ⟨h0, col, a, c, rbs, qb, h1, h2, h3, h4, h5⟩ := h
  refine calls_den (fn := Tryz.f233) (args := [_, _]) Tryz.func233 rfl (by simp) (fun R hR => ?_)
  refine RUN.ld k6 rfl (rfl) ?_
  by_cases t0 : tick = 0
  · refine CEq.yes (t0) ?_
    exact hR _ _ ⟨rfl, Ext.refl w⟩
  · refine CEq.no (t0) ?_
    refine RUN.ld k6 rfl (rfl) ?_
    refine ART.rem (by omega) (by omega) (fun r hr => ?_)
    by_cases t1 : r = 0
    · refine CEq.yes (t1) ?_
      refine RUN.ld k4 rfl (rfl) ?_
      refine RUN.ld h2 rfl (rfl) ?_
      refine CALL.by (qlen_in h5) rfl ?_
      rintro e w1 ⟨rfl, x1⟩
      have : common = [] := by
        rcases common with _ | ⟨z, cs⟩
        · rfl
        · exact absurd ⟨t0, by omega, by simp⟩ hno
      subst this
      refine CEq.yes (rfl) ?_
      exact hR _ _ ⟨rfl, x1⟩
    · refine CEq.no (t1) ?_
      exact hR _ _ ⟨rfl, Ext.refl w⟩
theorem fair_yes {w : World} {S : Nat → Prop} {b b4 b6 : Nat} {rows : List (List Int)} {common : List Int} {g tick : Int} (h : ScAt w S b rows (g :: common)) (k4 : At w b4 (B [pt b] 105)) (k6 : At w b6 (B [i64 tick] 3)) (ht : 0 ≤ tick) (h0t : tick ≠ 0) (h61 : tick % 61 = 0) (hcl : common.length ≤ 2 ^ 30) :
    Calls PP 233 #[pt b6, pt b4] w (fun e w' => e = .returned (.tuple #[i64 g, .bool true]) ∧ ScAt w' (Nw w S) b rows common ∧ Ch S w w') := by
  replace h := ScAt.fm.mono h (S' := fun y => S y ∧ y < w.heap.size) (fun y hy hs => ⟨hs, hy⟩)
  obtain ⟨h0, col, a, c, rbs, qb, h1, h2, h3, h4, h5⟩ := h
  refine calls_den (fn := Tryz.f233) (args := [_, _]) Tryz.func233 rfl (by simp) (fun R hR => ?_)
  refine RUN.ld k6 rfl (rfl) ?_
  refine CEq.no (by omega) ?_
  refine RUN.ld k6 rfl (rfl) ?_
  refine ART.rem (by omega) (by omega) (fun r hr => ?_)
  refine CEq.yes (by omega) ?_
  refine RUN.ld k4 rfl (rfl) ?_
  refine RUN.ld h2 rfl (rfl) ?_
  refine CALL.by (qlen_in h5) rfl ?_
  rintro e w1 ⟨rfl, x1⟩
  refine CEq.no ((by simp; omega)) ?_
  refine RUN.ld (x1.at k4) rfl (rfl) ?_
  refine RUN.ld (x1.at h2) rfl (rfl) ?_
  refine CALL.by (qget_in (QAt.fm.ext h5 x1) (by simp; omega) (by omega)) rfl ?_
  rintro e w2 ⟨a2, c2, U, S2, rfl, v2, q2, hu, o2, c2'⟩
  have hN : getN 1 1 (g :: common).length = 1 := by unfold getN; simp; omega
  rw [hN] at v2 q2 ⊢
  simp only [List.take_succ_cons, List.take_zero, List.drop_succ_cons, List.drop_zero] at v2 q2 ⊢
  obtain ⟨sb, so, pre, post, rfl, r1, r2, r3⟩ := v2.open (by simp [ints])
  refine BD.mk (so + (0 : Int).toNat * 1) ⟨by omega, by simp [ints], rfl⟩ ?_
  refine RUN.ld r2 rfl ((app_get r3 (ints_get (by rfl)) rfl)) ?_
  have s1 := x1.size
  have hbne : ∀ {y k}, (S y ∧ y < w.heap.size) ∧ col y = k → k ≠ 3 → ¬ ((S y ∧ y < w.heap.size) ∧ col y = 3) := fun h1 h2 h3 => h2 (h1.2.symm.trans h3.2)
  refine hR _ _ ⟨rfl, ScAt.join h0 h1 (c2'.at (x1.at h2) (fun hh => by have := hh.2; omega)) (VS.fm.ch (VS.fm.ext h3 x1) c2' fun y hy hs => hbne hs (by decide)) (RsAt.fm.ch (RsAt.fm.ext h4 x1) c2' fun y hy hs => hbne hs (by decide)) q2 (fun y hy => (o2 y hy).imp id (fun h => by omega)), .sub (.toS x1) c2' (fun y hy => .inl hy.1.1)⟩
theorem getN_le (ps most : Int) (n : Nat) : getN ps most n ≤ n := by unfold getN; omega
/-- All of a Sched's parts, named. -/
structure ScX (w : World) (S : Nat → Prop) (b : Nat) (rows : List (List Int)) (common : List Int) (col : Nat → Nat) (a : Option Addr) (c : Nat) (rbs : List Nat) (qb : Nat) : Prop where
  own : S b
  cb : col b = 0
  hat : At w b (B [.slice a (pts rbs).length c, pt qb] 193)
  rs : VS w (fun y => S y ∧ col y = 1) 194 a c (pts rbs)
  rings : RsAt w (fun y => S y ∧ col y = 2) rbs rows
  q : QAt w (fun y => S y ∧ col y = 3) qb common
theorem ScX.of {w : World} {S : Nat → Prop} {b : Nat} {rows : List (List Int)} {common : List Int} (h : ScAt w S b rows common) : ∃ col a c rbs qb, ScX w S b rows common col a c rbs qb := by
  obtain ⟨h0, col, a, c, rbs, qb, h1, h2, h3, h4, h5⟩ := h
  exact ⟨col, a, c, rbs, qb, h0, h1, h2, h3, h4, h5⟩
section
variable {w w' : World} {S U : Nat → Prop} {b qb c : Nat} {a : Option Addr} {rbs : List Nat} {col : Nat → Nat} {rows : List (List Int)} {common : List Int}
theorem ScX.to (h : ScX w S b rows common col a c rbs qb) : ScAt w S b rows common := ⟨h.own, col, a, c, rbs, qb, h.cb, h.hat, h.rs, h.rings, h.q⟩
theorem ScX.fm : Fm (fun w S => ScX w S b rows common col a c rbs qb) := by
  rintro w w' S S' ⟨h0, h1, h2, h3, h4, h5⟩ hf
  refine ⟨(hf b h2.lt h0).2, h1, (hf b h2.lt h0).1.trans h2, VS.fm w w' _ _ h3 ?_, RsAt.fm w w' _ _ h4 ?_, QAt.fm w w' _ _ h5 ?_⟩
  all_goals
    intro y hy hs
    exact ⟨(hf y hy hs.1).1, (hf y hy hs.1).2, hs.2⟩
theorem ScX.old (h : ScX w S b rows common col a c rbs qb) : ScX w (fun y => S y ∧ y < w.heap.size) b rows common col a c rbs qb := ScX.fm.mono h fun y hy hs => ⟨hs, hy⟩
end
theorem ScX.join {w0 w : World} {S S5 : Nat → Prop} {b qb c : Nat} {a : Option Addr} {rbs : List Nat} {col : Nat → Nat} {rows : List (List Int)} {common : List Int} (h0 : S b ∧ b < w0.heap.size) (h1 : col b = 0) (h2 : At w b (B [.slice a (pts rbs).length c, pt qb] 193))
    (h3 : VS w (fun y => (S y ∧ y < w0.heap.size) ∧ col y = 1) 194 a c (pts rbs)) (h4 : RsAt w (fun y => (S y ∧ y < w0.heap.size) ∧ col y = 2) rbs rows) (h5 : QAt w S5 qb common) (ho : ∀ y, S5 y → ((S y ∧ y < w0.heap.size) ∧ col y = 3) ∨ w0.heap.size ≤ y) :
    ScX w (Nw w0 S) b rows common (ncol w0 col 3) a c rbs qb := by
  refine ⟨.inl h0.1, by rw [ncol_old h0.2]; exact h1, h2, VS.fm.mono h3 ?_, RsAt.fm.mono h4 ?_, QAt.fm.mono h5 ?_⟩
  · exact fun y hy hs => ⟨.inl hs.1.1, by rw [ncol_old hs.1.2]; exact hs.2⟩
  · exact fun y hy hs => ⟨.inl hs.1.1, by rw [ncol_old hs.1.2]; exact hs.2⟩
  · intro y hy hs
    rcases ho y hs with hs | hs
    · exact ⟨.inl hs.1.1, by rw [ncol_old hs.1.2]; exact hs.2⟩
    · exact ⟨.inr hs, ncol_new hs⟩
theorem ScX.len {w : World} {S : Nat → Prop} {b qb c : Nat} {a : Option Addr} {rbs : List Nat} {col : Nat → Nat} {rows : List (List Int)} {common : List Int} (h : ScX w S b rows common col a c rbs qb) : (pts rbs).length = rows.length := by rw [pts_len, h.rings.1]
theorem part_none {w : World} {S : Nat → Prop} {b b4 b10 rb qb c : Nat} {a : Option Addr} {rbs : List Nat} {col : Nat → Nat} {rows : List (List Int)} (h : ScX w S b rows [] col a c rbs qb) (k4 : At w b4 (B [pt b] 105)) (k10 : At w b10 (B [pt rb] 194)) (hr : 1 ≤ rows.length ∧ rows.length ≤ 64) :
    Calls PP 236 #[pt b4, pt b10] w (fun e w' => e = .returned (.tuple #[i64 0, .bool false]) ∧ (∃ col', ScX w' (Nw w S) b rows [] col' a c rbs qb) ∧ Ch S w w') := by
  replace h := h.old
  have hl := h.len
  obtain ⟨h0, h1, h2, h3, h4, h5⟩ := h
  refine calls_den (fn := Tryz.f236) (args := [_, _]) Tryz.func236 rfl (by simp) (fun R hR => ?_)
  refine DRAW.q 9 (qs 9 0) (by kernel_rfl) (fun _ _ _ _ _ h => h) ?_
  refine RUNQ.ld k4 rfl (rfl) ?_
  refine RUNQ.ld h2 rfl (rfl) ?_
  refine RUNQ.ld k4 rfl (rfl) ?_
  refine RUNQ.ld h2 rfl (rfl) ?_
  refine LEN.mk (rows.length : Int) (by rw [hl]) ?_
  intro w1 x1
  refine CALL.by (qget_in (QAt.fm.ext h5 x1) (by simp) (by omega)) rfl ?_
  rintro e w2 ⟨a2, c2, U, S2, rfl, v2, q2, hu, o2, c2'⟩
  have s1 := x1.size
  have hbne : ∀ {y k}, (S y ∧ y < w.heap.size) ∧ col y = k → k ≠ 3 → ¬ ((S y ∧ y < w.heap.size) ∧ col y = 3) := fun h1 h2 h3 => h2 (h1.2.symm.trans h3.2)
  simp only [List.take_nil, List.drop_nil] at v2 q2 ⊢
  refine LEN.mk (0) (by first | rfl | simp [ints] | (simp [ints]; omega)) ?_
  refine CEq.yes (by omega) ?_
  exact hR _ _ ⟨rfl, ⟨_, ScX.join h0 h1 (c2'.at (x1.at h2) (fun hh => by have := hh.2; omega)) (VS.fm.ch (VS.fm.ext h3 x1) c2' fun y hy hs => hbne hs (by decide)) (RsAt.fm.ch (RsAt.fm.ext h4 x1) c2' fun y hy hs => hbne hs (by decide)) q2 (fun y hy => (o2 y hy).imp id (fun h => by omega))⟩, .sub (.toS x1) c2' (fun y hy => .inl hy.1.1)⟩
/-- Those in common are taken in part: the first one, and the others into the ring. -/
theorem part_some {w : World} {S : Nat → Prop} {b b4 b10 rb qb c p : Nat} {a : Option Addr} {rbs : List Nat} {col : Nat → Nat} {rows : List (List Int)} {common t : List Int} {g : Int} (h : ScX w S b rows common col a c rbs qb)
    (k4 : At w b4 (B [pt b] 105)) (k10 : At w b10 (B [pt rb] 194)) (n4 : ¬ S b4) (n10 : ¬ S b10) (hrb : rbs[p]? = some rb) (hrow : rows[p]? = some []) (hr : 1 ≤ rows.length ∧ rows.length ≤ 64) (hcl : common.length ≤ 2 ^ 30)
    (ht : common.take (getN rows.length 64 common.length) = g :: t) :
    Calls PP 236 #[pt b4, pt b10] w (fun e w' => e = .returned (.tuple #[i64 g, .bool true]) ∧ ScAt w' (Nw w S) b (rows.set p t) (common.drop (getN rows.length 64 common.length)) ∧ Ch S w w') := by
  replace h := h.old
  have hl := h.len
  obtain ⟨h0, h1, h2, h3, h4, h5⟩ := h
  have hN := getN_le rows.length 64 common.length
  have hN64 : getN rows.length 64 common.length ≤ 64 := by unfold getN; omega
  have htl : t.length + 1 = getN rows.length 64 common.length := by
    have := congrArg List.length ht
    simp at this; omega
  refine calls_den (fn := Tryz.f236) (args := [_, _]) Tryz.func236 rfl (by simp) (fun R hR => ?_)
  refine DRAW.q 9 (qs 9 0) (by kernel_rfl) (fun _ _ _ _ _ h => h) ?_
  refine RUNQ.ld k4 rfl (rfl) ?_
  refine RUNQ.ld h2 rfl (rfl) ?_
  refine RUNQ.ld k4 rfl (rfl) ?_
  refine RUNQ.ld h2 rfl (rfl) ?_
  refine LEN.mk (rows.length : Int) (by rw [hl]) ?_
  intro w1 x1
  refine CALL.by (qget_in (QAt.fm.ext h5 x1) (by omega) (by omega)) rfl ?_
  rintro e w2 ⟨a2, c2, U0, S2, rfl, v2, q2, hu, o2, c2'⟩
  generalize hdr : common.drop (getN rows.length 64 common.length) = rest at q2 hR
  rw [ht] at v2 ⊢
  have s1 := x1.size
  have s2 := c2'.size
  replace v2 := VS.fm.mono v2 (fun y hy hs => (⟨hs, hy⟩ : U0 y ∧ y < w2.heap.size))
  have hbne : ∀ {y k}, (S y ∧ y < w.heap.size) ∧ col y = k → k ≠ 3 → ¬ ((S y ∧ y < w.heap.size) ∧ col y = 3) := fun h1 h2 h3 => h2 (h1.2.symm.trans h3.2)
  have m2 := c2'.at (x1.at h2) (fun hh => by have := hh.2; omega)
  have m3 := VS.fm.ch (VS.fm.ext h3 x1) c2' fun y hy hs => hbne hs (by decide)
  have m4 := RsAt.fm.ch (RsAt.fm.ext h4 x1) c2' fun y hy hs => hbne hs (by decide)
  have z4 := c2'.at (x1.at k4) (fun hh => n4 hh.1.1)
  have z10 := c2'.at (x1.at k10) (fun hh => n10 hh.1.1)
  refine LEN.mk ((t.length + 1 : Int)) (by first | rfl | simp [ints] | (simp [ints]; omega)) ?_
  refine CEq.no (by omega) ?_
  refine RUN.vslice (some (.i64, 1)) none v2 rfl rfl rfl rfl rfl (by simp [optV]) (by simp [optV, ints]; omega) (by simp [optV]) (fun a3 c3 us hus v3 => ?_)
  have e3 : us = ints t := by
    rw [hus]
    simp only [optV, ints, List.map_cons, List.length_cons, List.length_map, Int.toNat_natCast]
    exact List.take_of_length_le (by simp)
  clear hus
  subst e3
  refine LEN.mk ((t.length : Int)) (by first | rfl | simp [ints] | (simp [ints]; omega)) ?_
  refine LOOP.inv (X := Nat) (fun i => [(0, pt b4), (1, pt b10), (4, .slice a2 (ints (g :: t)).length c2), (21, .slice a3 (ints t).length c3), (22, i64 t.length), (23, i64 i)])
    (fun i w' => i ≤ t.length ∧ At w' b4 (B [pt b] 105) ∧ At w' b10 (B [pt rb] 194) ∧ At w' b (B [.slice a (pts rbs).length c, pt qb] 193) ∧ VS w' (fun y => (S y ∧ y < w.heap.size) ∧ col y = 1) 194 a c (pts rbs) ∧
      RsAt w' (fun y => (S y ∧ y < w.heap.size) ∧ col y = 2) rbs (rows.set p (t.take i)) ∧ (∃ S', QAt w' S' qb rest ∧ (∀ y, S' y → ((S y ∧ y < w.heap.size) ∧ col y = 3) ∨ w.heap.size ≤ y) ∧ ∀ y, U0 y ∧ y < w2.heap.size → ¬ S' y) ∧
      VS w' (fun y => U0 y ∧ y < w2.heap.size) 3 a2 c2 (ints (g :: t)) ∧ VS w' (fun y => U0 y ∧ y < w2.heap.size) 3 a3 c3 (ints t) ∧ Ch (fun y => S y ∧ y < w.heap.size) w w' ∧ w2.heap.size ≤ w'.heap.size)
    (fun i => t.length - i) 0 ⟨rfl, rfl, rfl, rfl, rfl, rfl, trivial⟩ ⟨Nat.zero_le _, z4, z10, m2, m3, by
      rw [List.take_zero]
      obtain ⟨hlt, he⟩ := List.getElem?_eq_some_iff.1 hrow
      have : rows.set p [] = rows := by rw [← he]; exact List.set_getElem_self hlt
      rw [this]; exact m4, ⟨S2, q2, fun y hy => (o2 y hy).imp id (fun h => by omega), fun y hy => (hu y hy.1).2⟩, v2, v3, .sub (.toS x1) c2' (fun y hy => .inl hy.1), Nat.le_refl _⟩ ?_
  rintro i w5 ⟨hi, z4, z10, m2, m3, m4, ⟨S', q5, o5, d5⟩, v2, v3, c5, s5⟩ j
  have hrl : p < rows.length := (List.getElem?_eq_some_iff.1 hrow).1
  by_cases hlt : i < t.length
  · obtain ⟨sb, so, pre, post, rfl, r1, r2, r3⟩ := v3.open (by simp [ints]; omega)
    have hg := m4.2.2 p rb (t.take i) hrb (by rw [List.getElem?_set_self hrl])
    have hrs := hg.1
    have hput : rput (t.take i) t[i] = (t.take (i + 1), []) := by
      unfold rput
      rw [if_pos (by simp; omega), List.take_succ_eq_append_getElem hlt]
    refine CLt.yes (by omega) ?_
    refine BD.mk (so + i * 1) ⟨by omega, by simp [ints]; omega, by simp⟩ ?_
    refine RUN.ld r2 rfl ((app_get r3 (ints_get (List.getElem?_eq_getElem hlt)) rfl)) ?_
    refine DRAW.k 7 [(0, .q), (1, .q), (2, .q), (3, .q), (4, .q), (5, .q), (6, .s)] [b4, b, b10] (by kernel_rfl) (fun _ _ _ _ _ h => h) ?_
    refine RUNQ.kld z4 (by simp) rfl (rfl) ?_
    refine RUNQ.kld m2 (by simp) rfl (rfl) ?_
    refine RUNQ.kld z10 (by simp) rfl (rfl) ?_
    intro w6 x6 _
    refine CALL.by (rput_in (RgAt.fm.ext hg x6)) rfl ?_
    rintro e w7 ⟨⟨a7, c7, rfl, v7⟩, g7, h7⟩
    rw [hput] at v7 g7 ⊢
    have y4 : b4 ≠ rb := by rintro rfl; exact n4 hrs.1.1
    have y10 : b10 ≠ rb := by rintro rfl; exact n10 hrs.1.1
    have yb : b ≠ rb := by rintro rfl; have := hrs.2; omega
    refine ⟨Keep.ch ⟨x6.size, fun y _ hy => x6.old y hy id⟩ h7 (fun y hy _ => ?_), ?_⟩
    · simp at hy
      rcases hy with rfl | rfl | rfl
      · exact y4
      · exact yb
      · exact y10
    intro w8 x8
    have s6 := x6.size
    have s7 := h7.size
    have s8 := x8.size
    have hq8 := QAt.fm.ext (QAt.fm.ch (QAt.fm.ext q5 x6) h7 (fun y hy hs => by
      rintro rfl
      rcases o5 y hs with h | h
      · have := h.2; have := hrs.2; omega
      · have := hrs.1.2; omega)) x8
    refine CALL.by (qput_in hq8 (VS.fm.ext v7 x8) (by have := hdr ▸ (List.length_drop (i := getN rows.length 64 common.length) (l := common)); simp; omega)) rfl ?_
    rintro e w9 ⟨rfl, ⟨S9, o9, q9⟩, c9⟩
    have s9 := c9.size
    refine ART.add (by omega) (fun k hk => ?_)
    subst hk
    rw [List.append_nil] at q9
    have hnew : ∀ y, U0 y ∧ y < w2.heap.size → ¬ S' y := d5
    have hu0 : ∀ y, U0 y → w.heap.size ≤ y := fun y hy => by have := (hu y hy).1; omega
    have m4' := RsAt.set (RsAt.fm.ext m4 x6) hrb g7 h7
    rw [List.set_set] at m4'
    have l4 := k4.lt
    have l10 := k10.lt
    have nS : ∀ y, y < w.heap.size → ¬ ((S y ∧ y < w.heap.size) ∧ col y = 3) → ¬ S' y := fun y hy hn hs => (o5 y hs).elim hn (by omega)
    refine Nxt.mk (i + 1) ?_ ?_ ?_
    · refine ⟨rfl, rfl, rfl, rfl, rfl, rfl, trivial⟩
    · refine ⟨hlt, c9.at (x8.at (h7.at (x6.at z4) y4)) (nS _ l4 fun hh => n4 hh.1.1), c9.at (x8.at (h7.at (x6.at z10) y10)) (nS _ l10 fun hh => n10 hh.1.1),
        c9.at (x8.at (h7.at (x6.at m2) yb)) (nS _ h0.2 fun hh => by have := hh.2; omega), VS.fm.ch (VS.fm.ext (VS.fm.ch (VS.fm.ext m3 x6) h7 ?_) x8) c9 ?_, RsAt.fm.ch (RsAt.fm.ext m4' x8) c9 ?_, ⟨S9, q9, ?_, ?_⟩,
        VS.fm.ch (VS.fm.ext (VS.fm.ch (VS.fm.ext v2 x6) h7 ?_) x8) c9 ?_, VS.fm.ch (VS.fm.ext (VS.fm.ch (VS.fm.ext v3 x6) h7 ?_) x8) c9 ?_, .sub (.ext (.sub (.ext c5 x6) h7 ?_) x8) c9 ?_, by omega⟩
      · rintro y hy hs rfl; have := hs.2; have := hrs.2; omega
      · exact fun y hy hs => nS y hs.1.2 (hbne hs (by decide))
      · exact fun y hy hs => nS y hs.1.2 (hbne hs (by decide))
      · intro y hy
        rcases o9 y hy with hy | hy
        · exact o5 y hy
        · exact .inr (by omega)
      · intro y hy hs
        rcases o9 y hs with h | h
        · exact d5 y hy h
        · have := hy.2; omega
      · rintro y hy hs rfl; have := hu0 _ hs.1; have := hrs.1.2; omega
      · exact fun y hy hs => d5 y hs
      · rintro y hy hs rfl; have := hu0 _ hs.1; have := hrs.1.2; omega
      · exact fun y hy hs => d5 y hs
      · rintro y rfl; exact .inl hrs.1
      · intro y hy
        exact (o5 y hy).imp (fun h => h.1) id
    · omega
  · have : i = t.length := by omega
    subst this
    refine CLt.no (by omega) ?_
    rw [List.take_length] at m4
    obtain ⟨sb, so, pre, post, rfl, r1, r2, r3⟩ := v2.open (by simp [ints])
    refine BD.mk (so + (0 : Int).toNat * 1) ⟨by omega, by simp [ints], rfl⟩ ?_
    refine RUN.ld r2 rfl ((app_get r3 (ints_get (by rfl)) rfl)) ?_
    exact hR _ _ ⟨rfl, (ScX.join h0 h1 m2 m3 m4 q5 o5).to, c5.mono (fun y _ hy => hy.1)⟩
/-- Rings turn, the rest stays. -/
theorem ScX.turn {w w' : World} {S U : Nat → Prop} {b qb c : Nat} {a : Option Addr} {rbs : List Nat} {col : Nat → Nat} {rows rows' : List (List Int)} {common : List Int} (h : ScX w S b rows common col a c rbs qb)
    (hr : RsAt w' (fun y => S y ∧ col y = 2) rbs rows') (hc : Ch U w w') (hU : ∀ y, U y → col y = 2) : ScX w' S b rows' common col a c rbs qb :=
  ⟨h.own, h.cb, hc.at h.hat (fun hh => by have := hU _ hh; have := h.cb; omega), VS.fm.ch h.rs hc (fun y _ hs hh => by have := hU _ hh; have := hs.2; omega), hr, QAt.fm.ch h.q hc (fun y _ hs hh => by have := hU _ hh; have := hs.2; omega)⟩
theorem steal_in' {w : World} {S : Nat → Prop} {b b4 b5 b7 b10 rb qb c : Nat} {a : Option Addr} {rbs : List Nat} {col : Nat → Nat} {rows : List (List Int)} {common : List Int} {p v : Int} (h : ScX w S b rows common col a c rbs qb)
    (k4 : At w b4 (B [pt b] 105)) (k5 : At w b5 (B [i64 p] 3)) (k7 : At w b7 (B [i64 v] 3)) (k10 : At w b10 (B [pt rb] 194)) (n10 : ¬ S b10) (hp : 0 ≤ p) (hrb : rbs[p.toNat]? = some rb) (hrow : rows[p.toNat]? = some []) :
    Calls PP 237 #[pt b4, pt b7, pt b5, pt b10] w (fun e w' => ((e = .returned (.tuple #[i64 0, .bool false]) ∧ ScAt w' S b rows common) ∨
      ∃ (o t : List Int) (g : Int), 0 ≤ v ∧ v ≠ p ∧ rows[v.toNat]? = some o ∧ o.take (stealN o []) = g :: t ∧ e = .returned (.tuple #[i64 g, .bool true]) ∧ ScAt w' S b ((rows.set p.toNat t).set v.toNat (o.drop (stealN o []))) common) ∧ Ch S w w') := by
  have hl := h.len
  refine calls_den (fn := Tryz.f237) (args := [_, _, _, _]) Tryz.func237 rfl (by simp) (fun R hR => ?_)
  refine RUN.ld k4 rfl (rfl) ?_
  refine RUN.ld k7 rfl (rfl) ?_
  refine CALL.by (has_in h.to) rfl ?_
  rintro e w1 ⟨rfl, x1⟩
  have hX := ScX.fm.ext h x1
  have hrg := hX.rings.2.2 _ _ _ hrb hrow
  by_cases hv : 0 ≤ v ∧ v < rows.length
  · rw [decide_eq_true hv]
    refine RUN.ld (x1.at k7) rfl (rfl) ?_
    refine RUN.ld (x1.at k5) rfl (rfl) ?_
    by_cases hvp : v = p
    · refine CEq.yes (hvp) ?_
      refine RUN.ld (x1.at k10) rfl (rfl) ?_
      refine CALL.by (rget_none hrg) rfl ?_
      rintro e w2 ⟨rfl, x2⟩
      exact hR _ _ ⟨.inl ⟨rfl, (ScX.fm.ext hX x2).to⟩, .toS (x1.trans' x2)⟩
    · obtain ⟨o, ho⟩ : ∃ o, rows[v.toNat]? = some o := ⟨rows[v.toNat]'(by omega), List.getElem?_eq_getElem (by omega)⟩
      have hrl := h.rings.1
      obtain ⟨vb, hvb⟩ : ∃ vb, rbs[v.toNat]? = some vb := ⟨rbs[v.toNat]'(by omega), List.getElem?_eq_getElem (by omega)⟩
      have hvg := hX.rings.2.2 _ _ _ hvb ho
      have hne : rb ≠ vb := nodup_ne h.rings.2.1 hrb hvb (by omega)
      obtain ⟨sb, so, pre, post, rfl, r1, r2, r3⟩ := hX.rs.open (by omega)
      refine CEq.no (hvp) ?_
      refine DRAW.q 8 (qs 8 0) (by kernel_rfl) (fun _ _ _ _ _ h => h) ?_
      refine RUNQ.ld (x1.at k10) rfl (rfl) ?_
      refine RUNQ.ld (x1.at k4) rfl (rfl) ?_
      refine RUNQ.ld hX.hat rfl (rfl) ?_
      refine RUNQ.ld (x1.at k7) rfl (rfl) ?_
      refine BD.mk (so + v.toNat * 1) ⟨by omega, by omega, rfl⟩ ?_
      refine RUNQ.ld r2 rfl ((app_get r3 (pts_get hvb) rfl)) ?_
      intro w2 x2
      refine CALL.by (steal_in (RgAt.fm.ext hrg x2) (RgAt.fm.ext hvg x2) hne) rfl ?_
      rintro e w3 ⟨rfl, g3, o3, c3⟩
      rw [List.nil_append] at g3
      have n10' : ¬ (b10 = rb ∨ b10 = vb) := by
        rintro (rfl | rfl)
        · exact n10 hrg.1.1
        · exact n10 hvg.1.1
      have hcol : ∀ y, y = rb ∨ y = vb → col y = 2 := by
        rintro y (rfl | rfl)
        · exact hrg.1.2
        · exact hvg.1.2
      have hSy : ∀ y, y = rb ∨ y = vb → S y := by
        rintro y (rfl | rfl)
        · exact hrg.1.1
        · exact hvg.1.1
      have hrs3 : RsAt w3 (fun y => S y ∧ col y = 2) rbs ((rows.set p.toNat (o.take (stealN o []))).set v.toNat (o.drop (stealN o []))) := by
        refine ⟨by simpa using hrl, h.rings.2.1, fun k r row' hk hrow' => ?_⟩
        by_cases hkv : k = v.toNat
        · subst hkv
          rw [List.getElem?_set_self (by simp; omega)] at hrow'
          rw [hvb] at hk
          cases hk; cases hrow'
          exact o3
        · rw [List.getElem?_set_ne (Ne.symm hkv)] at hrow'
          by_cases hkp : k = p.toNat
          · subst hkp
            rw [List.getElem?_set_self (by have := (List.getElem?_eq_some_iff.1 hrow).1; omega)] at hrow'
            rw [hrb] at hk
            cases hk; cases hrow'
            exact g3
          · rw [List.getElem?_set_ne (Ne.symm hkp)] at hrow'
            refine (RgAt.fm.ext (hX.rings.2.2 k r row' hk hrow') x2).ch1 c3 ?_
            rintro (rfl | rfl)
            · exact nodup_ne h.rings.2.1 hk hrb hkp rfl
            · exact nodup_ne h.rings.2.1 hk hvb hkv rfl
      have hX3 := (ScX.fm.ext hX x2).turn hrs3 c3 hcol
      refine RUN.ld (c3.at (x2.at (x1.at k10)) n10') rfl (rfl) ?_
      generalize hst : o.take (stealN o []) = st at *
      rcases st with _ | ⟨g, t⟩
      · refine CALL.by (rget_none g3) rfl ?_
        rintro e w4 ⟨rfl, x4⟩
        have h0 : o = [] := by
          rcases o with _ | ⟨z, cs⟩
          · rfl
          · exfalso
            have := congrArg List.length hst
            unfold stealN at this
            simp at this
            omega
        have : (rows.set p.toNat []).set v.toNat (o.drop (stealN o [])) = rows := by
          subst h0
          rw [List.drop_nil]
          obtain ⟨hlt, he⟩ := List.getElem?_eq_some_iff.1 hrow
          have e1 : rows.set p.toNat [] = rows := by rw [← he]; exact List.set_getElem_self hlt
          obtain ⟨hlt2, he2⟩ := List.getElem?_eq_some_iff.1 ho
          rw [e1, ← he2]; exact List.set_getElem_self hlt2
        rw [this] at hX3
        exact hR _ _ ⟨.inl ⟨rfl, (ScX.fm.ext hX3 x4).to⟩, .ext (.sub (.toS (x1.trans' x2)) c3 (fun y hy => .inl (hSy y hy))) x4⟩
      · refine CALL.by (rget_in g3) rfl ?_
        rintro e w4 ⟨rfl, g4, c4⟩
        have hrs4 := RsAt.set hX3.rings hrb g4 c4
        rw [List.set_comm _ _ (by omega), List.set_set] at hrs4
        have hX4 := hX3.turn hrs4 c4 (fun y hy => hcol y (.inl hy))
        exact hR _ _ ⟨.inr ⟨o, t, g, hv.1, hvp, ho, hst, rfl, hX4.to⟩, .sub (.sub (.toS (x1.trans' x2)) c3 (fun y hy => .inl (hSy y hy))) c4 (fun y hy => .inl (hSy y (.inl hy)))⟩
  · rw [decide_eq_false hv]
    refine RUN.ld (x1.at k10) rfl (rfl) ?_
    refine CALL.by (rget_none hrg) rfl ?_
    rintro e w2 ⟨rfl, x2⟩
    exact hR _ _ ⟨.inl ⟨rfl, (ScX.fm.ext hX x2).to⟩, .toS (x1.trans' x2)⟩
/-- Who is picked, and what is left. -/
inductive PickR (rows : List (List Int)) (common : List Int) (p tick v : Int) : Int → List (List Int) → List Int → Prop
  | fair {g : Int} {cs : List Int} (h0 : tick ≠ 0) (h1 : tick % 61 = 0) (h : common = g :: cs) : PickR rows common p tick v g rows cs
  | own {g : Int} {r : List Int} (h : rows[p.toNat]? = some (g :: r)) : PickR rows common p tick v g (rows.set p.toNat r) common
  | part {g : Int} {t : List Int} {n : Nat} (h0 : rows[p.toNat]? = some []) (hn : n ≤ 64) (h : common.take n = g :: t) : PickR rows common p tick v g (rows.set p.toNat t) (common.drop n)
  | steal {g : Int} {o t : List Int} {n : Nat} (h0 : rows[p.toNat]? = some []) (hc : common = []) (hv : 0 ≤ v) (hne : v ≠ p) (ho : rows[v.toNat]? = some o) (h : o.take n = g :: t) : PickR rows common p tick v g ((rows.set p.toNat t).set v.toNat (o.drop n)) common
theorem Nw.not {w : World} {S : Nat → Prop} {y : Nat} (h : ¬ S y) (hy : y < w.heap.size) : ¬ Nw w S y := by
  rintro (h' | h')
  · exact h h'
  · omega
theorem pick_in {w : World} {S : Nat → Prop} {b : Nat} {rows : List (List Int)} {common row : List Int} {p tick v : Int} (h : ScAt w S b rows common) (hp : 0 ≤ p) (hrow : rows[p.toNat]? = some row) (ht : 0 ≤ tick) (hr : rows.length ≤ 64) (hcl : common.length ≤ 2 ^ 30) :
    Calls PP 168 #[pt b, i64 p, i64 tick, i64 v] w (fun e w' => ((e = .returned (.tuple #[i64 0, .bool false]) ∧ row = [] ∧ common = [] ∧ ScAt w' (Nw w S) b rows common) ∨
      ∃ g rows' common', PickR rows common p tick v g rows' common' ∧ e = .returned (.tuple #[i64 g, .bool true]) ∧ ScAt w' (Nw w S) b rows' common') ∧ Ch S w w') := by
  obtain ⟨col, a, c, rbs, qb, hX⟩ := ScX.of h
  replace hX := hX.old
  have hpl : p.toNat < rows.length := (List.getElem?_eq_some_iff.1 hrow).1
  have hrl : rbs.length = rows.length := hX.rings.1
  obtain ⟨rb, hrb⟩ : ∃ rb, rbs[p.toNat]? = some rb := ⟨rbs[p.toNat]'(by omega), List.getElem?_eq_getElem (by omega)⟩
  refine calls_den (fn := Tryz.f168) (args := [_, _, _, _]) Tryz.func168 rfl (by simp) (fun R hR => ?_)
  refine RUN.box (fun b4 w1 n1 => ?_)
  refine RUN.box (fun b5 w2 n2 => ?_)
  refine RUN.box (fun b6 w3 n3 => ?_)
  refine RUN.box (fun b7 w4 n4 => ?_)
  have k4 := n4.at (n3.at (n2.at n1.here))
  have k5 := n4.at (n3.at n2.here)
  have k6 := n4.at n3.here
  have k7 := n4.here
  have x4 : Ext w w4 := ((n1.ext.trans' n2.ext).trans' n3.ext).trans' n4.ext
  have hX4 := ScX.fm.ext hX x4
  have l1 := n1.blk
  have l2 := n2.blk
  have l3 := n3.blk
  have l4 := n4.blk
  have z1 := n1.ext.size
  have z2 := n2.ext.size
  have z3 := n3.ext.size
  have z4 := n4.ext.size
  refine RUN.ld k4 rfl (rfl) ?_
  refine RUN.ld k5 rfl (rfl) ?_
  refine CALL.by (has_in hX4.to) rfl ?_
  rintro e w5 ⟨rfl, x5⟩
  rw [decide_eq_true (by omega : 0 ≤ p ∧ p < rows.length)]
  replace k4 := x5.at k4
  replace k5 := x5.at k5
  replace k6 := x5.at k6
  replace k7 := x5.at k7
  have hX5 := ScX.fm.ext hX4 x5
  have z5 := x5.size
  obtain ⟨sb, so, pre, post, rfl, r1, r2, r3⟩ := hX5.rs.open (by rw [hX5.len]; omega)
  refine DRAW.q 8 [(0, .q), (1, .q), (2, .q), (3, .q), (4, .q), (5, .q), (6, .q), (7, .s)] (by kernel_rfl) (fun _ _ _ _ _ h => h) ?_
  refine RUNQ.ld k4 rfl (rfl) ?_
  refine RUNQ.ld hX5.hat rfl (rfl) ?_
  refine RUNQ.ld k5 rfl (rfl) ?_
  refine BD.mk (so + p.toNat * 1) ⟨hp, by rw [hX5.len]; omega, rfl⟩ ?_
  refine RUNQ.ld r2 rfl ((app_get r3 (pts_get hrb) rfl)) ?_
  intro w6 x6 _
  refine RUN.alloc rfl rfl (fun b10 w7 n7 => ?_)
  refine ⟨x6.trans' n7.ext, ?_⟩
  intro w8 x8
  have l7 := n7.blk
  have z6 := x6.size
  have z7 := n7.ext.size
  have z8 := x8.size
  refine RUN.stp (x8.at n7.here) rfl (by simp) (fun w9 u9 => ?_)
  have k10 := u9.here
  have x9 : Ext w5 w9 := .trans (.trans' (.trans' x6 n7.ext) x8) u9.ch (fun y hy hh => by omega)
  replace k4 := x9.at k4
  replace k5 := x9.at k5
  replace k6 := x9.at k6
  replace k7 := x9.at k7
  have hX9 := ScX.fm.ext hX5 x9
  have x09 : Ext w w9 := (x4.trans' x5).trans' x9
  refine RUN.ld k10 rfl (rfl) ?_
  refine RUN.buildSlice rfl rfl rfl rfl rfl rfl rfl (fun b11 w11 n11 => ?_)
  have z11 := n11.ext.size
  have z9 := x9.size
  have l11 := n11.blk
  replace k4 := n11.at k4
  replace k5 := n11.at k5
  replace k6 := n11.at k6
  replace k7 := n11.at k7
  replace k10 := n11.at k10
  have hXa := ScX.fm.ext hX9 n11.ext
  have x0a : Ext w w11 := x09.trans' n11.ext
  have f11 := n11.here
  have m4 := k4.lt
  have m10 := k10.lt
  have m11 := f11.lt
  have wr : ∀ {w' : World} {S' : Nat → Prop} {rows' : List (List Int)} {common' : List Int}, ScAt w' S' b rows' common' → (∀ y, S' y → (S y ∧ y < w.heap.size) ∨ w.heap.size ≤ y) → ScAt w' (Nw w S) b rows' common' := fun h1 h2 =>
    ScAt.fm.mono h1 fun y _ hy => (h2 y hy).imp (fun h => h.1) id
  have wc : ∀ {w' : World}, Ch (fun y => S y ∧ y < w.heap.size) w11 w' → Ch S w w' := fun h1 => (x0a.toS (S := S)).sub h1 (fun y hy => .inl hy.1)
  refine LEN.mk (4) (by first | rfl | simp [ints] | (simp [ints]; omega)) ?_
  refine LOOP.rounds 5 ?_
  refine CLt.yes (by omega) ?_
  refine BD.mk (0 + 0 * 1) (by first | exact ⟨by decide, by decide, rfl⟩ | exact ⟨by omega, by omega, by omega⟩) ?_
  refine RUN.ld f11 rfl (rfl) ?_
  by_cases hf : tick ≠ 0 ∧ tick % 61 = 0 ∧ common ≠ []
  · obtain ⟨g, cs, rfl⟩ : ∃ g cs, common = g :: cs := by
      rcases common with _ | ⟨g, cs⟩
      · exact absurd rfl hf.2.2
      · exact ⟨g, cs, rfl⟩
    refine CALL.by (fair_yes hXa.to k4 k6 ht hf.1 hf.2.1 (by simp at hcl; omega)) rfl ?_
    rintro e w12 ⟨rfl, s12, c12⟩
    exact hR _ _ ⟨.inr ⟨g, rows, cs, .fair hf.1 hf.2.1 rfl, rfl, wr s12 (fun y hy => hy.imp id (fun h => by omega))⟩, wc c12⟩
  · refine CALL.by (fair_no hXa.to k4 k6 ht hf) rfl ?_
    rintro e w12 ⟨rfl, x12⟩
    have hXb := ScX.fm.ext hXa x12
    have z12 := x12.size
    have hrg := hXb.rings.2.2 _ _ _ hrb hrow
    refine ART.add (by omega) (fun i1 hi1 => ?_)
    subst hi1
    refine CLt.yes (by omega) ?_
    refine BD.mk (0 + 1 * 1) (by first | exact ⟨by decide, by decide, rfl⟩ | exact ⟨by omega, by omega, by omega⟩) ?_
    refine RUN.ld (x12.at f11) rfl (rfl) ?_
    rcases row with _ | ⟨g, r⟩
    · refine CALL.by (rget_none hrg) rfl ?_
      rintro e w13 ⟨rfl, x13⟩
      have hXc := ScX.fm.ext hXb x13
      have z13 := x13.size
      have x13' := x12.trans' x13
      refine ART.add (by omega) (fun i2 hi2 => ?_)
      subst hi2
      refine CLt.yes (by omega) ?_
      refine BD.mk (0 + 2 * 1) (by first | exact ⟨by decide, by decide, rfl⟩ | exact ⟨by omega, by omega, by omega⟩) ?_
      refine RUN.ld (Ext.at x13' f11) rfl (rfl) ?_
      rcases common with _ | ⟨g0, cs⟩
      · refine CALL.by (part_none hXc (Ext.at x13' k4) (Ext.at x13' k10) ⟨by omega, by omega⟩) rfl ?_
        rintro e w14 ⟨rfl, ⟨col', hXd⟩, c14⟩
        have z14 := c14.size
        have nn : ∀ y, w.heap.size ≤ y → ¬ (S y ∧ y < w.heap.size) := fun y hy hh => by omega
        refine ART.add (by omega) (fun i3 hi3 => ?_)
        subst hi3
        refine CLt.yes (by omega) ?_
        refine BD.mk (0 + 3 * 1) (by first | exact ⟨by decide, by decide, rfl⟩ | exact ⟨by omega, by omega, by omega⟩) ?_
        refine RUN.ld (c14.at (Ext.at x13' f11) (nn _ (by omega))) rfl (rfl) ?_
        refine CALL.by (steal_in' hXd (c14.at (Ext.at x13' k4) (nn _ (by omega))) (c14.at (Ext.at x13' k5) (nn _ (by omega))) (c14.at (Ext.at x13' k7) (nn _ (by omega))) (c14.at (Ext.at x13' k10) (nn _ (by omega))) (Nw.not (nn _ (by omega)) (by omega)) hp hrb hrow) rfl ?_
        have wn : ∀ y, Nw w13 (fun y => S y ∧ y < w.heap.size) y → (S y ∧ y < w.heap.size) ∨ w.heap.size ≤ y := fun y hy => hy.imp id (fun h => by omega)
        have cc : ∀ {w'}, Ch (Nw w13 (fun y => S y ∧ y < w.heap.size)) w14 w' → Ch S w w' := fun h1 => (wc ((x13'.toS).sub c14 (fun y hy => .inl hy))).sub h1 (fun y hy => (wn y hy).imp (fun h => h.1) id)
        rintro e w15 ⟨⟨rfl, s15⟩ | ⟨o, t, g, hv, hne, ho, htk, rfl, s15⟩, c15⟩
        · refine ART.add (by omega) (fun i4 hi4 => ?_)
          subst hi4
          refine CLt.no (by omega) ?_
          exact hR _ _ ⟨.inl ⟨rfl, rfl, rfl, wr s15 wn⟩, cc c15⟩
        · exact hR _ _ ⟨.inr ⟨g, _, _, .steal hrow rfl hv hne ho htk, rfl, wr s15 wn⟩, cc c15⟩
      · have hnz : 1 ≤ getN rows.length 64 (g0 :: cs).length := by
          unfold getN
          have : (0 : Int) ≤ ((g0 :: cs).length : Int) / max (rows.length : Int) 1 := Int.ediv_nonneg (by omega) (by omega)
          simp at this ⊢
          omega
        have htk : (g0 :: cs).take (getN rows.length 64 (g0 :: cs).length) = g0 :: cs.take (getN rows.length 64 (g0 :: cs).length - 1) := by
          generalize getN rows.length 64 (g0 :: cs).length = n at hnz
          obtain ⟨m, rfl⟩ : ∃ m, n = m + 1 := ⟨n - 1, by omega⟩
          simp
        refine CALL.by (part_some hXc (Ext.at x13' k4) (Ext.at x13' k10) (fun hh => by omega) (fun hh => by omega) hrb hrow ⟨by omega, by omega⟩ hcl htk) rfl ?_
        rintro e w14 ⟨rfl, s14, c14⟩
        exact hR _ _ ⟨.inr ⟨g0, _, _, .part hrow (by unfold getN; omega) htk, rfl, wr s14 (fun y hy => hy.imp id (fun h => by omega))⟩, wc ((x13'.toS).sub c14 (fun y hy => .inl hy))⟩
    · refine CALL.by (rget_in hrg) rfl ?_
      rintro e w13 ⟨rfl, g13, c13⟩
      have hX13 := hXb.turn (RsAt.set hXb.rings hrb g13 c13) c13 (by rintro y rfl; exact hrg.1.2)
      exact hR _ _ ⟨.inr ⟨g, _, common, .own hrow, rfl, wr hX13.to (fun y hy => .inl hy)⟩, wc ((x12.toS).sub c13 (by rintro y rfl; exact .inl hrg.1.1))⟩
end Go.E
end
