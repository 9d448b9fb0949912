/- Rings. -/
import Derived.LaidEql
import Derived.Test.YtnbekdcepnfpaaaGreatDoorG06
set_option linter.unusedVariables false
set_option linter.unusedSimpArgs false
set_option maxRecDepth 10000
noncomputable section
namespace Go.E
open Go Go.Proofs

def rgC (arr : List Value) (f : Int) (n : Int) (nx : Int) : List Value := arr ++ [i64 f, i64 n, i64 nx, .bool false]
theorem rg0 {arr : List Value} {f n nx : Int} (h : arr.length = 256) : (rgC arr f n nx)[256]? = some (i64 f) := by
  unfold rgC; rw [List.getElem?_append_right (by omega), h]; rfl
theorem rg1 {arr : List Value} {f n nx : Int} (h : arr.length = 256) : (rgC arr f n nx)[257]? = some (i64 n) := by
  unfold rgC; rw [List.getElem?_append_right (by omega), h]; rfl
theorem rg3 {arr : List Value} {f n nx : Int} (h : arr.length = 256) : (rgC arr f n nx)[259]? = some (.bool false) := by
  unfold rgC; rw [List.getElem?_append_right (by omega), h]; rfl
theorem rgs0 {arr : List Value} {f n nx f' : Int} (h : arr.length = 256) : (rgC arr f n nx).set 256 (i64 f') = rgC arr f' n nx := by
  unfold rgC; rw [List.set_append_right _ _ (by omega), h]; rfl
theorem rgs1 {arr : List Value} {f n nx n' : Int} (h : arr.length = 256) : (rgC arr f n nx).set 257 (i64 n') = rgC arr f n' nx := by
  unfold rgC; rw [List.set_append_right _ _ (by omega), h]; rfl
theorem rga {arr : List Value} {f n nx : Int} {i : Nat} (h : arr.length = 256) (hi : i < 256) : (rgC arr f n nx)[i]? = arr[i]? := by
  unfold rgC; rw [List.getElem?_append_left (by omega)]
theorem rgsa {arr : List Value} {f n nx : Int} {i : Nat} {v : Value} (h : arr.length = 256) (hi : i < 256) : (rgC arr f n nx).set i v = rgC (arr.set i v) f n nx := by
  unfold rgC; rw [List.set_append_left _ _ (by omega)]
theorem rgl {arr : List Value} {f n nx : Int} (h : arr.length = 256) : (rgC arr f n nx).length = 260 := by simp [rgC, h]
def RgAt (w : World) (S : Nat → Prop) (b : Nat) (row : List Int) : Prop :=
  S b ∧ row.length ≤ 256 ∧ ∃ (arr : List Value) (f : Nat) (nx : Int), arr.length = 256 ∧ f < 256 ∧ (∀ i x, row[i]? = some x → arr[(f + i) % 256]? = some (i64 x)) ∧ At w b (B (rgC arr f row.length nx) 276)
theorem RgAt.fm {b : Nat} {row : List Int} : Fm (fun w S => RgAt w S b row) := by
  rintro w w' S S' ⟨h1, h2, arr, f, nx, h3, h4, h5, h6⟩ hf
  exact ⟨(hf b h6.lt h1).2, h2, arr, f, nx, h3, h4, h5, (hf b h6.lt h1).1.trans h6⟩
theorem RgAt.ch1 {w w' : World} {S U : Nat → Prop} {b : Nat} {row : List Int} (h : RgAt w S b row) (hc : Ch U w w') (hb : ¬ U b) : RgAt w' S b row := by
  obtain ⟨h1, h2, arr, f, nx, h3, h4, h5, h6⟩ := h
  exact ⟨h1, h2, arr, f, nx, h3, h4, h5, hc.at h6 hb⟩
theorem ring_new (w : World) : Calls PP 143 #[] w (fun e w' => ∃ b, e = .returned (pt b) ∧ RgAt w' (· = b) b [] ∧ b = w.heap.size ∧ Ext w w') := by
  refine calls_den (fn := Tryz.f143) (args := []) Tryz.func143 rfl (by simp) (fun R hR => ?_)
  refine RUN.box (fun b1 w1 n1 => ?_)
  exact hR _ _ ⟨b1, rfl, ⟨rfl, by simp, List.replicate 256 (i64 0), 0, 0, List.length_replicate .., by omega, by simp, n1.here⟩, n1.blk, n1.ext⟩
theorem rat_in {w : World} {b : Nat} {arr : List Value} {f n nx i : Int} (h : At w b (B (rgC arr f n nx) 276)) (ha : arr.length = 256) (hf : 0 ≤ f ∧ f < 256) (hi : 0 ≤ i ∧ i ≤ 256) :
    Calls PP 183 #[pt b, i64 i] w (Pure w (.pointer (some ⟨b, ((f + i) % 256).toNat, none⟩))) := by
  refine calls_den (fn := Tryz.f183) (args := [_, _]) Tryz.func183 rfl (by simp) (fun R hR => ?_)
  refine DRAW.q 10 (qs 10 0) (by kernel_rfl) (fun _ _ _ _ _ h => h) ?_
  refine RUNQ.ld h rfl ((rg0 ha)) ?_
  refine ART.add (by omega) (fun r1 g1 => ?_)
  refine ART.rem (by omega) (by omega) (fun r2 g2 => ?_)
  intro w1 x1
  subst g1
  refine BD.mk ((f + i) % 256).toNat ⟨by omega, by omega, by omega⟩ ?_
  exact hR _ _ ⟨rfl, x1⟩
theorem row_shift {row : List Int} {arr : List Value} {f : Nat} {x : Int} {r : List Int} (hrow : row = x :: r) (h : ∀ i x, row[i]? = some x → arr[(f + i) % 256]? = some (i64 x)) :
    ∀ i x, r[i]? = some x → arr[((f + 1) % 256 + i) % 256]? = some (i64 x) := by
  intro i y hy
  have := h (i + 1) y (by rw [hrow]; simpa using hy)
  rw [show ((f + 1) % 256 + i) % 256 = (f + (i + 1)) % 256 by omega]
  exact this
/-- The first one is taken out. -/
theorem rfirst_in {w : World} {S : Nat → Prop} {b : Nat} {x : Int} {r : List Int} (h : RgAt w S b (x :: r)) :
    Calls PP 287 #[pt b] w (fun e w' => e = .returned (i64 x) ∧ RgAt w' S b r ∧ Ch (fun y => y = b) w w') := by
  obtain ⟨h1, h2, arr, f, nx, h3, h4, h5, h6⟩ := h
  refine calls_den (fn := Tryz.f287) (args := [_]) Tryz.func287 rfl (by simp) (fun R hR => ?_)
  refine CALL.by (rat_in h6 h3 (by omega) (by omega)) rfl ?_
  rintro e w1 ⟨rfl, x1⟩
  replace h6 := x1.at h6
  have hx := h5 0 x rfl
  refine RUN.ld h6 rfl ((by rw [rga h3 (by omega), ← hx]; congr 1)) ?_
  refine DRAW.q 16 [(0, .q), (1, .q), (2, .q), (3, .q), (4, .q), (5, .q), (6, .q), (7, .q), (8, .q), (9, .q), (10, .q), (11, .q), (12, .q), (13, .q), (14, .q), (15, .f)] (by kernel_rfl) (fun _ _ _ _ _ h => h) ?_
  refine RUNQ.ld h6 rfl ((rg0 h3)) ?_
  refine ART.add (by omega) (fun r1 g1 => ?_)
  refine ART.rem (by omega) (by omega) (fun r2 g2 => ?_)
  refine RUNQ.ld h6 rfl ((rg1 h3)) ?_
  refine ART.sub (by omega) (fun r3 g3 => ?_)
  intro w2 x2 _
  replace h6 := x2.at h6
  refine RUN.sti h6 rfl (by rw [rgl h3]; decide) (fun w3 u3 => ?_)
  intro w4 x4
  have h7 := x4.at u3.here
  rw [rgs0 h3] at h7
  refine RUN.sti h7 rfl (by rw [rgl h3]; decide) (fun w5 u5 => ?_)
  have h8 := u5.here
  rw [rgs1 h3] at h8
  refine hR _ _ ⟨rfl, ⟨h1, by simp at h2; omega, arr, (f + 1) % 256, nx, h3, by omega, row_shift rfl h5, ?_⟩, .upd (.ext (.upd (.toS (x1.trans' x2)) u3 (.inl rfl)) x4) u5 (.inl rfl)⟩
  have e1 : r2 = (((f + 1) % 256 : Nat) : Int) := by omega
  have e2 : r3 = (r.length : Int) := by simp at g3; omega
  rw [e1, e2] at h8
  exact h8
theorem row_app {row : List Int} {arr : List Value} {f : Nat} {x : Int} (hl : row.length < 256) (ha : arr.length = 256) (h : ∀ i x, row[i]? = some x → arr[(f + i) % 256]? = some (i64 x)) :
    ∀ i y, (row ++ [x])[i]? = some y → (arr.set ((f + row.length) % 256) (i64 x))[(f + i) % 256]? = some (i64 y) := by
  intro i y hy
  by_cases hi : i < row.length
  · rw [List.getElem?_append_left hi] at hy
    rw [List.getElem?_set_ne (by omega)]
    exact h i y hy
  · rw [List.getElem?_append_right (by omega)] at hy
    have : i - row.length = 0 := by
      rcases Nat.eq_zero_or_pos (i - row.length) with h | h
      · exact h
      · rw [List.getElem?_eq_none (by simp; omega)] at hy; cases hy
    rw [this] at hy
    simp at hy
    have hi2 : i = row.length := by omega
    subst hi2 hy
    rw [List.getElem?_set_self (by omega)]
/-- There is room behind. -/
theorem behind_in {w : World} {S : Nat → Prop} {b : Nat} {x : Int} {row : List Int} (h : RgAt w S b row) (hl : row.length < 256) :
    Calls PP 205 #[pt b, i64 x] w (fun e w' => e = .returned nils ∧ RgAt w' S b (row ++ [x]) ∧ Ch (fun y => y = b) w w') := by
  obtain ⟨h1, h2, arr, f, nx, h3, h4, h5, h6⟩ := h
  refine calls_den (fn := Tryz.f205) (args := [_, _]) Tryz.func205 rfl (by simp) (fun R hR => ?_)
  refine RUN.ld h6 rfl ((rg1 h3)) ?_
  refine CLt.yes (by omega) ?_
  refine RUN.ld h6 rfl ((rg1 h3)) ?_
  refine CALL.by (rat_in h6 h3 (by omega) (by omega)) rfl ?_
  rintro e w1 ⟨rfl, x1⟩
  replace h6 := x1.at h6
  have hk : (((f : Int) + row.length) % 256).toNat = (f + row.length) % 256 := by omega
  rw [hk]
  refine RUN.sti h6 rfl (by rw [rgl h3]; omega) (fun w2 u2 => ?_)
  have h7 := u2.here
  rw [rgsa h3 (by omega)] at h7
  have h3' : (arr.set ((f + row.length) % 256) (i64 x)).length = 256 := by simpa using h3
  refine RUN.ld h7 rfl ((rg1 h3')) ?_
  refine ART.add (by omega) (fun r1 g1 => ?_)
  refine RUN.sti h7 rfl (by rw [rgl h3']; decide) (fun w3 u3 => ?_)
  have h8 := u3.here
  rw [rgs1 h3'] at h8
  have e1 : r1 = (((row ++ [x]).length : Nat) : Int) := by simp; omega
  rw [e1] at h8
  exact hR _ _ ⟨rfl, ⟨h1, by simp; omega, _, f, nx, h3', h4, row_app hl h3 h5, h8⟩, .upd (.upd (.toS x1) u2 (.inl rfl)) u3 (.inl rfl)⟩
/-- What a ring takes, and what it gives back. -/
def rput (row : List Int) (g : Int) : List Int × List Int := if row.length < 256 then (row ++ [g], []) else (row.drop 128, row.take 128 ++ [g])
theorem behind_full {w : World} {S : Nat → Prop} {b : Nat} {x : Int} {row : List Int} (h : RgAt w S b row) (hl : row.length = 256) :
    Calls PP 205 #[pt b, i64 x] w (fun e w' => (∃ a c, e = .returned (.slice a (ints (row.take 128 ++ [x])).length c) ∧ VS w' (fun y => w.heap.size ≤ y) 3 a c (ints (row.take 128 ++ [x]))) ∧ RgAt w' S b (row.drop 128) ∧ Ch (fun y => y = b) w w') := by
  have h0 := h
  obtain ⟨h1, h2, arr, f, nx, h3, h4, h5, h6⟩ := h
  have hbs := h6.lt
  refine calls_den (fn := Tryz.f205) (args := [_, _]) Tryz.func205 rfl (by simp) (fun R hR => ?_)
  refine RUN.ld h6 rfl ((rg1 h3)) ?_
  refine CLt.no (by omega) ?_
  refine LOOP.inv (X := Nat × Option Addr × Nat) (fun p => [(0, pt b), (1, i64 x), (5, .slice p.2.1 (ints (row.take p.1)).length p.2.2), (26, i64 p.1)])
    (fun p w' => p.1 ≤ 128 ∧ RgAt w' S b (row.drop p.1) ∧ VS w' (fun y => w.heap.size ≤ y) 3 p.2.1 p.2.2 (ints (row.take p.1)) ∧ Ch (fun y => y = b) w w') (fun p => 128 - p.1) (0, none, 0) ⟨rfl, rfl, rfl, rfl, trivial⟩ ⟨by simp, by simpa using h0, VS.nil _ _ _, Ch.refl _ w⟩ ?_
  rintro ⟨i, a, c⟩ w1 ⟨hi, hr, hv, hc⟩ j
  simp only at hi hr hv
  by_cases hlt : i < 128
  · have hdrop : row.drop i = row[i] :: row.drop (i + 1) := List.drop_eq_getElem_cons (by omega)
    rw [hdrop] at hr
    refine CLt.yes (by omega) ?_
    refine CALL.by (rfirst_in hr) rfl ?_
    rintro e w2 ⟨rfl, r2, c2⟩
    replace hv := VS.fm.ch hv c2 (fun y hy hs => by omega)
    refine RUN.buildSlice rfl rfl rfl rfl rfl rfl rfl (fun b3 w3 n3 => ?_)
    replace r2 := RgAt.fm.ext r2 n3.ext
    replace hv := VS.fm.ext hv n3.ext
    refine RUN.vapp1 hv n3.here rfl rfl rfl rfl rfl rfl (by simp [ints]; omega) rfl (fun a' c' w4 hv' h4c => ?_)
    obtain ⟨S4, o4, v4⟩ := hv'
    refine ART.add (by omega) (fun r hr1 => ?_)
    have etk : ints (row.take (i + 1)) = ints (row.take i) ++ [i64 row[i]] := by
      rw [List.take_succ_eq_append_getElem (by omega), ints_app]; rfl
    have s1 := hc.size
    have s2 := c2.size
    have s3 := n3.ext.size
    refine Nxt.mk ((i + 1, a', c')) ?_ ?_ ?_
    · refine ⟨rfl, rfl, ?_, by subst hr1; rfl, trivial⟩
      show _ = Value.slice a' (ints (row.take (i + 1))).length c'
      rw [etk]
      rfl
    · refine ⟨hlt, r2.ch1 h4c (by omega), ?_, ((hc.trans' c2).ext n3.ext).sub h4c (fun y hy => .inr hy)⟩
      · show VS w4 _ 3 a' c' (ints (row.take (i + 1)))
        rw [etk]
        exact VS.fm.mono v4 fun y hy hs => by rcases o4 y hs with h | h <;> omega
    · show 128 - (i + 1) < 128 - i
      omega
  · have : i = 128 := by omega
    subst this
    refine CLt.no (by omega) ?_
    refine RUN.buildSlice rfl rfl rfl rfl rfl rfl rfl (fun b3 w3 n3 => ?_)
    replace hv := VS.fm.ext hv n3.ext
    replace hr := RgAt.fm.ext hr n3.ext
    refine RUN.vapp1 hv n3.here rfl rfl rfl rfl rfl rfl (by simp [ints]; omega) rfl (fun a' c' w4 hv' h4c => ?_)
    obtain ⟨S4, o4, v4⟩ := hv'
    have s1 := hc.size
    have s3 := n3.ext.size
    have e1 : ints (row.take 128) ++ [i64 x] = ints (row.take 128 ++ [x]) := by rw [ints_app]; rfl
    rw [e1] at v4 ⊢
    exact hR _ _ ⟨⟨a', c', rfl, VS.fm.mono v4 fun y hy hs => by rcases o4 y hs with h | h <;> omega⟩, hr.ch1 h4c (by omega), (hc.ext n3.ext).sub h4c (fun y hy => .inr hy)⟩
theorem rput_in {w : World} {S : Nat → Prop} {b : Nat} {g : Int} {row : List Int} (h : RgAt w S b row) :
    Calls PP 151 #[pt b, i64 g, .bool false] w (fun e w' => (∃ a c, e = .returned (.slice a (ints (rput row g).2).length c) ∧ VS w' (fun y => w.heap.size ≤ y) 3 a c (ints (rput row g).2)) ∧ RgAt w' S b (rput row g).1 ∧ Ch (fun y => y = b) w w') := by
  refine calls_den (fn := Tryz.f151) (args := [_, _, _]) Tryz.func151 rfl (by simp) (fun R hR => ?_)
  unfold rput at hR
  by_cases hl : row.length < 256
  · rw [if_pos hl] at hR
    refine CALL.by (behind_in h hl) rfl ?_
    rintro e w1 ⟨rfl, r1, c1⟩
    exact hR _ _ ⟨⟨none, 0, rfl, VS.nil _ _ _⟩, r1, c1⟩
  · rw [if_neg hl] at hR
    refine CALL.by (behind_full h (by have := h.2.1; omega)) rfl ?_
    rintro e w1 ⟨⟨a, c, rfl, v1⟩, r1, c1⟩
    exact hR _ _ ⟨⟨a, c, rfl, v1⟩, r1, c1⟩
/-- The next one; nobody. -/
theorem rget_in {w : World} {S : Nat → Prop} {b : Nat} {x : Int} {r : List Int} (h : RgAt w S b (x :: r)) :
    Calls PP 239 #[pt b] w (fun e w' => e = .returned (.tuple #[i64 x, .bool true]) ∧ RgAt w' S b r ∧ Ch (fun y => y = b) w w') := by
  have h0 := h
  obtain ⟨h1, h2, arr, f, nx, h3, h4, h5, h6⟩ := h
  refine calls_den (fn := Tryz.f239) (args := [_]) Tryz.func239 rfl (by simp) (fun R hR => ?_)
  refine RUN.ld h6 rfl ((rg3 h3)) ?_
  refine RUN.ld h6 rfl ((rg1 h3)) ?_
  refine CEq.no (by simp; omega) ?_
  refine RUN.ld h6 rfl ((rg3 h3)) ?_
  refine CALL.by (rfirst_in h0) rfl ?_
  rintro e w1 ⟨rfl, r1, c1⟩
  exact hR _ _ ⟨rfl, r1, c1⟩
theorem rget_none {w : World} {S : Nat → Prop} {b : Nat} (h : RgAt w S b []) : Calls PP 239 #[pt b] w (Pure w (.tuple #[i64 0, .bool false])) := by
  obtain ⟨h1, h2, arr, f, nx, h3, h4, h5, h6⟩ := h
  refine calls_den (fn := Tryz.f239) (args := [_]) Tryz.func239 rfl (by simp) (fun R hR => ?_)
  refine RUN.ld h6 rfl ((rg3 h3)) ?_
  refine RUN.ld h6 rfl ((rg1 h3)) ?_
  refine CEq.yes (rfl) ?_
  exact hR _ _ ⟨rfl, Ext.refl w⟩
theorem rall_in {w : World} {S : Nat → Prop} {b : Nat} {row : List Int} (h : RgAt w S b row) :
    Calls PP 120 #[pt b] w (fun e w' => (∃ a c, e = .returned (.slice a (ints row).length c) ∧ VS w' (fun y => w.heap.size ≤ y) 3 a c (ints row)) ∧ Ext w w') := by
  obtain ⟨h1, h2, arr, f, nx, h3, h4, h5, h6⟩ := h
  refine calls_den (fn := Tryz.f120) (args := [_]) Tryz.func120 rfl (by simp) (fun R hR => ?_)
  refine RUN.ld h6 rfl ((rg3 h3)) ?_
  refine RUN.ld h6 rfl ((rg1 h3)) ?_
  refine LOOP.inv (X := Nat × Option Addr × Nat) (fun p => [(0, pt b), (3, .slice p.2.1 (ints (row.take p.1)).length p.2.2), (21, i64 row.length), (22, i64 p.1)])
    (fun p w' => p.1 ≤ row.length ∧ VS w' (fun y => w.heap.size ≤ y) 3 p.2.1 p.2.2 (ints (row.take p.1)) ∧ Ext w w') (fun p => row.length - p.1) (0, none, 0) ⟨rfl, rfl, rfl, rfl, trivial⟩ ⟨by simp, VS.nil _ _ _, Ext.refl w⟩ ?_
  rintro ⟨i, a, c⟩ w1 ⟨hi, hv, hc⟩ j
  simp only at hi hv
  by_cases hlt : i < row.length
  · refine CLt.yes (by omega) ?_
    refine CALL.by (rat_in (hc.at h6) h3 (by omega) (by omega)) rfl ?_
    rintro e w2 ⟨rfl, x2⟩
    have hx := h5 i row[i] (by simp)
    refine RUN.ld (x2.at (hc.at h6)) rfl ((by rw [rga h3 (by omega)]; rw [← hx]; congr 1)) ?_
    refine RUN.buildSlice rfl rfl rfl rfl rfl rfl rfl (fun b3 w3 n3 => ?_)
    replace hv := VS.fm.ext hv (x2.trans' n3.ext)
    refine RUN.vapp1 hv n3.here rfl rfl rfl rfl rfl rfl (by simp [ints]; omega) rfl (fun a' c' w4 hv' h4c => ?_)
    obtain ⟨S4, o4, v4⟩ := hv'
    refine ART.add (by omega) (fun r hr1 => ?_)
    have etk : ints (row.take (i + 1)) = ints (row.take i) ++ [i64 row[i]] := by
      rw [List.take_succ_eq_append_getElem (by omega), ints_app]; rfl
    have s1 := hc.size
    have s2 := x2.size
    have s3 := n3.ext.size
    refine Nxt.mk ((i + 1, a', c')) ?_ ?_ ?_
    · refine ⟨rfl, ?_, rfl, by subst hr1; rfl, trivial⟩
      show _ = Value.slice a' (ints (row.take (i + 1))).length c'
      rw [etk]
      rfl
    · refine ⟨hlt, ?_, ((hc.trans' x2).trans' n3.ext).sub h4c (fun y hy => .inr hy)⟩
      show VS w4 _ 3 a' c' (ints (row.take (i + 1)))
      rw [etk]
      exact VS.fm.mono v4 fun y hy hs => by rcases o4 y hs with h | h <;> omega
    · show row.length - (i + 1) < row.length - i
      omega
  · have : i = row.length := by omega
    subst this
    refine CLt.no (by omega) ?_
    rw [List.take_length] at hv ⊢
    exact hR _ _ ⟨⟨a, c, rfl, hv⟩, hc⟩
/-- How many are stolen. -/
def stealN (o r : List Int) : Nat := min (o.length - o.length / 2) (256 - r.length)
theorem RUN.pne {ty : TypeId} {w : World} {K : Value → World → Prop} {X : List PanicEntry → World → Prop} {t g e : TypeId} {x y : Operand} {a b : Nat} {ca cb : List Value} {Ta Tb : TypeId} (ha : At w a (B ca Ta)) (hb : At w b (B cb Tb)) (hne : a ≠ b)
    (ht : inTau t = true) (hk : (tau t).k = .ptr e) (he : known e = true) (hsz : Nat.beq (tau e).size 0 = false) (k : K (.bool false) w) : RUN (.binOp .eql t x y g) ty [pt a, pt b] w K X := by
  refine .ok _ w ?_ k
  have h1 := kptr ht hk
  obtain ⟨h2, h3⟩ := known_ok he
  have h4 := size_ok h2 h3 w
  have h5 : (tau e).size ≠ 0 := Nat.ne_of_beq_eq_false hsz
  have h6 : (Op.equal t (pt a) (pt b)).run PP w = .ok false w := by
    show (Op.equalIn 10000 t (pt a) (pt b)).run PP w = _
    unfold Op.equalIn
    simp only [Sem.run_bind, run_underlying' h1, Result.andThen_ok, h4]
    simp only [ne_eq, h5, not_false_eq_true, if_true]
    exact run_sameAddr_other w (by simp [hne]) ha hb
  show ((do eqGuard .eql t x y (pt a) (pt b); binOp .eql t (pt a) (pt b)) : Sem Value).run PP w = _
  have h7 : eqGuard .eql t x y (pt a) (pt b) = pure () := rfl
  have h8 : binOp .eql t (pt a) (pt b) = (do pure (.bool (← Op.equal t (pt a) (pt b)))) := rfl
  rw [h7, h8]
  simp only [Sem.run_bind, Sem.run_pure, Result.andThen_ok, h6]
theorem steal_in {w : World} {S1 S2 : Nat → Prop} {b c : Nat} {r o : List Int} (hr : RgAt w S1 b r) (ho : RgAt w S2 c o) (hne : b ≠ c) :
    Calls PP 238 #[pt b, pt c] w (fun e w' => e = .returned (i64 (stealN o r)) ∧ RgAt w' S1 b (r ++ o.take (stealN o r)) ∧ RgAt w' S2 c (o.drop (stealN o r)) ∧ Ch (fun y => y = b ∨ y = c) w w') := by
  have hr0 := hr
  have ho0 := ho
  obtain ⟨h1, h2, arr, f, nx, h3, h4, h5, h6⟩ := hr
  obtain ⟨k1, k2, arr', f', nx', k3, k4, k5, k6⟩ := ho
  refine calls_den (fn := Tryz.f238) (args := [_, _]) Tryz.func238 rfl (by simp) (fun R hR => ?_)
  refine RUN.pne h6 k6 hne rfl rfl rfl rfl ?_
  refine RUN.ld k6 rfl ((rg1 k3)) ?_
  by_cases h0 : o.length = 0
  · refine CEq.yes (by omega) ?_
    refine RUN.ld k6 rfl ((rg3 k3)) ?_
    refine DRAW.q 15 (qs 15 0) (by kernel_rfl) (fun _ _ _ _ _ h => h) ?_
    refine RUNQ.ld k6 rfl ((rg1 k3)) ?_
    refine RUNQ.ld k6 rfl ((rg1 k3)) ?_
    refine ART.quo (by omega) (by omega) (by omega) (fun q1 g1 => ?_)
    refine ART.sub (by omega) (fun q2 g2 => ?_)
    refine RUNQ.ld h6 rfl ((rg1 h3)) ?_
    refine ART.sub (by omega) (fun q3 g3 => ?_)
    intro w1 x1
    refine RUN.min2 (fun n hn => ?_)
    have hN : n = stealN o r := by unfold stealN; omega
    have hNb : stealN o r ≤ o.length ∧ stealN o r + r.length ≤ 256 := by unfold stealN; omega
    clear hn g3 g2 g1
    subst hN
    refine LOOP.inv (X := Nat) (fun i => [(0, pt b), (1, pt c), (5, i64 (stealN o r)), (60, i64 (stealN o r)), (61, i64 i)])
      (fun i w' => i ≤ stealN o r ∧ RgAt w' S1 b (r ++ o.take i) ∧ RgAt w' S2 c (o.drop i) ∧ Ch (fun y => y = b ∨ y = c) w w') (fun i => stealN o r - i) 0 ⟨rfl, rfl, rfl, rfl, rfl, trivial⟩
      ⟨Nat.zero_le _, by simpa using RgAt.fm.ext hr0 x1, by simpa using RgAt.fm.ext ho0 x1, x1.toS⟩ ?_
    rintro i w2 ⟨hi, q1, q2, q3⟩ j
    by_cases hlt : i < stealN o r
    · have hdrop : o.drop i = o[i] :: o.drop (i + 1) := List.drop_eq_getElem_cons (by omega)
      rw [hdrop] at q2
      refine CLt.yes (by omega) ?_
      refine CALL.by (rfirst_in q2) rfl ?_
      rintro e w3 ⟨rfl, q4, c3⟩
      refine CALL.by (behind_in (q1.ch1 c3 hne) (by simp; omega)) rfl ?_
      rintro e w4 ⟨rfl, q5, c4⟩
      refine ART.add (by omega) (fun t ht => ?_)
      subst ht
      refine Nxt.mk (i + 1) ?_ ?_ ?_
      · exact ⟨rfl, rfl, rfl, rfl, rfl, trivial⟩
      · refine ⟨hlt, ?_, q4.ch1 c4 (Ne.symm hne), (q3.sub c3 (fun y hy => .inl (.inr hy))).sub c4 (fun y hy => .inl (.inl hy))⟩
        rw [List.take_succ_eq_append_getElem (by omega), ← List.append_assoc]
        exact q5
      · omega
    · have : i = stealN o r := by omega
      subst this
      refine CLt.no (by omega) ?_
      exact hR _ _ ⟨rfl, q1, q2, q3⟩
  · refine CEq.no (by omega) ?_
    refine DRAW.q 15 (qs 15 0) (by kernel_rfl) (fun _ _ _ _ _ h => h) ?_
    refine RUNQ.ld k6 rfl ((rg1 k3)) ?_
    refine RUNQ.ld k6 rfl ((rg1 k3)) ?_
    refine ART.quo (by omega) (by omega) (by omega) (fun q1 g1 => ?_)
    refine ART.sub (by omega) (fun q2 g2 => ?_)
    refine RUNQ.ld h6 rfl ((rg1 h3)) ?_
    refine ART.sub (by omega) (fun q3 g3 => ?_)
    intro w1 x1
    refine RUN.min2 (fun n hn => ?_)
    have hN : n = stealN o r := by unfold stealN; omega
    have hNb : stealN o r ≤ o.length ∧ stealN o r + r.length ≤ 256 := by unfold stealN; omega
    clear hn g3 g2 g1
    subst hN
    refine LOOP.inv (X := Nat) (fun i => [(0, pt b), (1, pt c), (5, i64 (stealN o r)), (60, i64 (stealN o r)), (61, i64 i)])
      (fun i w' => i ≤ stealN o r ∧ RgAt w' S1 b (r ++ o.take i) ∧ RgAt w' S2 c (o.drop i) ∧ Ch (fun y => y = b ∨ y = c) w w') (fun i => stealN o r - i) 0 ⟨rfl, rfl, rfl, rfl, rfl, trivial⟩
      ⟨Nat.zero_le _, by simpa using RgAt.fm.ext hr0 x1, by simpa using RgAt.fm.ext ho0 x1, x1.toS⟩ ?_
    rintro i w2 ⟨hi, q1, q2, q3⟩ j
    by_cases hlt : i < stealN o r
    · have hdrop : o.drop i = o[i] :: o.drop (i + 1) := List.drop_eq_getElem_cons (by omega)
      rw [hdrop] at q2
      refine CLt.yes (by omega) ?_
      refine CALL.by (rfirst_in q2) rfl ?_
      rintro e w3 ⟨rfl, q4, c3⟩
      refine CALL.by (behind_in (q1.ch1 c3 hne) (by simp; omega)) rfl ?_
      rintro e w4 ⟨rfl, q5, c4⟩
      refine ART.add (by omega) (fun t ht => ?_)
      subst ht
      refine Nxt.mk (i + 1) ?_ ?_ ?_
      · exact ⟨rfl, rfl, rfl, rfl, rfl, trivial⟩
      · refine ⟨hlt, ?_, q4.ch1 c4 (Ne.symm hne), (q3.sub c3 (fun y hy => .inl (.inr hy))).sub c4 (fun y hy => .inl (.inl hy))⟩
        rw [List.take_succ_eq_append_getElem (by omega), ← List.append_assoc]
        exact q5
      · omega
    · have : i = stealN o r := by omega
      subst this
      refine CLt.no (by omega) ?_
      exact hR _ _ ⟨rfl, q1, q2, q3⟩
end Go.E
end
