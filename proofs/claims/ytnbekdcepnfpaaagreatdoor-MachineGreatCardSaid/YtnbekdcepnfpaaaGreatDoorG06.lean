/- Rows in common. -/
import Derived.Test.YtnbekdcepnfpaaaGreatDoorG05
set_option linter.unusedVariables false
set_option maxRecDepth 10000
noncomputable section
namespace Go.E
open Go Go.Proofs

theorem VS.cases {w : World} {S : Nat → Prop} {T c : Nat} {a : Option Addr} {vs : List Value} (h : VS w S T a c vs) : (a = none ∧ c = 0 ∧ vs = []) ∨ ∃ b o, a = some ⟨b, o, none⟩ := by
  obtain ⟨h1, h2⟩ := h
  rcases h2 with ⟨h2, h3⟩ | ⟨b, o, cap, pre, post, hv, hs, hat, h3, h4, h5⟩
  · have hv0 : vs = [] := List.eq_nil_of_length_eq_zero h2
    subst hv0
    cases h3; exact .inl ⟨rfl, rfl, rfl⟩
  · cases hv; exact .inr ⟨b, o, rfl⟩
/-- A copy: of new blocks. -/
theorem clone_in {w : World} {U : Nat → Prop} {a : Option Addr} {c : Nat} {l : List Int} (h : VS w U 3 a c (ints l)) (hl : l.length ≤ 2 ^ 35) :
    Calls PP 65 #[.slice a (ints l).length c] w (fun e w' => (∃ a' c', e = .returned (.slice a' (ints l).length c') ∧ VS w' (fun y => w.heap.size ≤ y) 3 a' c' (ints l)) ∧ Ext w w') := by
  rcases h.cases with ⟨rfl, rfl, h3⟩ | ⟨b, o, rfl⟩
  · rw [h3]
    refine calls_den (fn := Tryz.f65) (args := [_]) Tryz.func65 rfl (by simp) (fun R hR => ?_)
    exact hR _ _ ⟨⟨none, 0, rfl, VS.nil _ _ _⟩, Ext.refl w⟩
  · refine calls_den (fn := Tryz.f65) (args := [_]) Tryz.func65 rfl (by simp) (fun R hR => ?_)
    refine RUN.buildSlice rfl rfl rfl rfl rfl rfl rfl (fun b1 w1 n1 => ?_)
    refine RUN.vapp (vs := []) (S := (· = b1)) (VS.of_new n1 (· = b1) rfl) (VS.fm.ext h n1.ext) rfl rfl rfl rfl rfl (ints_one l) (by simp [ints]; omega) rfl (fun a' c' w2 hv hc => ?_)
    obtain ⟨S2, o2, v2⟩ := hv
    have hb := n1.blk
    have hsz := n1.ext.size
    rw [List.nil_append] at v2 ⊢
    refine hR _ _ ⟨⟨a', c', rfl, VS.fm.mono v2 fun y _ hy => ?_⟩, n1.ext.trans hc (fun x hx hb => by omega)⟩
    rcases o2 y hy with rfl | h <;> omega

/-! The queue -/
def QAt (w : World) (S : Nat → Prop) (b : Nat) (l : List Int) : Prop :=
  S b ∧ ∃ a c, At w b (B [.slice a (ints l).length c] 280) ∧ VS w (fun x => S x ∧ x ≠ b) 3 a c (ints l)
theorem QAt.fm {b : Nat} {l : List Int} : Fm (fun w S => QAt w S b l) := by
  rintro w w' S S' ⟨h1, a, c, h4, h5⟩ hf
  exact ⟨(hf b h4.lt h1).2, a, c, (hf b h4.lt h1).1.trans h4, VS.fm w w' _ _ h5 fun y hy hs => ⟨(hf y hy hs.1).1, (hf y hy hs.1).2, hs.2⟩⟩
theorem queue_new (w : World) : Calls PP 142 #[] w (fun e w' => ∃ b, e = .returned (pt b) ∧ QAt w' (· = b) b [] ∧ b = w.heap.size ∧ Ext w w') := by
  refine calls_den (fn := Tryz.f142) (args := []) Tryz.func142 rfl (by simp) (fun R hR => ?_)
  refine RUN.box (fun b1 w1 n1 => ?_)
  exact hR _ _ ⟨b1, rfl, ⟨rfl, none, 0, n1.here, VS.nil _ _ _⟩, n1.blk, n1.ext⟩
theorem qlen_in {w : World} {S : Nat → Prop} {b : Nat} {l : List Int} (h : QAt w S b l) : Calls PP 234 #[pt b] w (Pure w (i64 l.length)) := by
  obtain ⟨h1, a, c, h4, h5⟩ := h
  refine calls_den (fn := Tryz.f234) (args := [_]) Tryz.func234 rfl (by simp) (fun R hR => ?_)
  refine RUN.ld h4 rfl (rfl) ?_
  refine LEN.mk ((l.length : Int)) (by first | rfl | simp [ints] | (simp [ints]; omega)) ?_
  exact hR _ _ ⟨rfl, Ext.refl w⟩
theorem qput_in {w : World} {S U : Nat → Prop} {b : Nat} {l k : List Int} {a : Option Addr} {c : Nat} (h : QAt w S b l) (hk : VS w U 3 a c (ints k)) (hl : l.length + k.length ≤ 2 ^ 35) :
    Calls PP 150 #[pt b, .slice a (ints k).length c] w (fun e w' => e = .returned (.tuple #[]) ∧ (∃ S', Own w S S' ∧ QAt w' S' b (l ++ k)) ∧ Ch S w w') := by
  obtain ⟨h1, a0, c0, h4, h5⟩ := h
  refine calls_den (fn := Tryz.f150) (args := [_, _]) Tryz.func150 rfl (by simp) (fun R hR => ?_)
  refine RUN.ld h4 rfl (rfl) ?_
  refine RUN.vapp h5 hk rfl rfl rfl rfl rfl (ints_one k) (by simp [ints]; omega) rfl (fun a' c' w2 hv hc => ?_)
  obtain ⟨S2, o2, v2⟩ := hv
  have hb := h4.lt
  replace h4 := hc.at h4 (fun h => h.2 rfl)
  refine RUN.stl h4 rfl (by simp) (fun w3 u3 => ?_)
  have hS2 : ∀ y, S2 y → (S y ∧ y ≠ b) ∨ w.heap.size ≤ y := o2
  refine hR _ _ ⟨rfl, ⟨fun y => y = b ∨ S2 y, ?_, .inl rfl, a', c', ?_, ?_⟩, ((Ch.refl S w).sub hc (fun y hy => .inl hy.1)).upd u3 (.inl h1)⟩
  · rintro y (rfl | hy)
    · exact .inl h1
    · exact (hS2 y hy).imp (·.1) id
  · have := u3.here
    rw [← ints_app] at this
    exact this
  · rw [ints_app]
    refine VS.fm.to v2 u3.ch fun y hy hs => ?_
    have : y ≠ b := by
      rcases hS2 y hs with h | h
      · exact h.2
      · omega
    exact ⟨this, .inr hs, this⟩
/-- So many are taken. -/
def getN (ps most : Int) (n : Nat) : Nat := (min (min (min (((n : Nat) : Int) / max ps 1 + 1) (max most 0)) 128) n).toNat
theorem qget_in {w : World} {S : Nat → Prop} {b : Nat} {l : List Int} {ps most : Int} (h : QAt w S b l) (hl : l.length ≤ 2 ^ 35) (hp : 1 ≤ ps ∧ ps ≤ 64) :
    Calls PP 235 #[pt b, i64 ps, i64 most] w (fun e w' => ∃ a c U S', e = .returned (.slice a (ints (l.take (getN ps most l.length))).length c) ∧ VS w' U 3 a c (ints (l.take (getN ps most l.length))) ∧
      QAt w' S' b (l.drop (getN ps most l.length)) ∧ (∀ y, U y → w.heap.size ≤ y ∧ ¬ S' y) ∧ Own w S S' ∧ Ch S w w') := by
  obtain ⟨h1, a0, c0, h4, h5⟩ := h
  refine calls_den (fn := Tryz.f235) (args := [_, _, _]) Tryz.func235 rfl (by simp) (fun R hR => ?_)
  refine DRAW.q 16 (qs 16 0) (by kernel_rfl) (fun _ _ _ _ _ h => h) ?_
  refine RUNQ.ld h4 rfl (rfl) ?_
  refine LEN.mk ((l.length : Int)) (by first | rfl | simp [ints] | (simp [ints]; omega)) ?_
  refine RUNQ.max2 (fun r1 g1 => ?_)
  have hq0 : (0 : Int) ≤ (l.length : Int) / r1 := Int.ediv_nonneg (by omega) (by omega)
  have hq1 : (l.length : Int) / r1 ≤ l.length := Int.ediv_le_self r1 (by omega)
  refine ART.quo (by omega) (by omega) (by omega) (fun r2 g2 => ?_)
  refine ART.add (by omega) (fun r3 g3 => ?_)
  refine RUNQ.max2 (fun r4 g4 => ?_)
  refine RUNQ.ld h4 rfl (rfl) ?_
  refine LEN.mk ((l.length : Int)) (by first | rfl | simp [ints] | (simp [ints]; omega)) ?_
  intro w1 x1
  replace h4 := x1.at h4
  replace h5 := VS.fm.ext h5 x1
  refine RUN.min4 (fun r5 g5 => ?_)
  have hg : r5.toNat = getN ps most l.length := by
    subst g5 g3 g2 g1 g4
    rfl
  have hr5 : 0 ≤ r5 ∧ r5 ≤ l.length := by omega
  clear g5 g3 g2 g1 g4
  have hil : (ints l).length = l.length := by simp [ints]
  refine RUN.ld h4 rfl (rfl) ?_
  refine RUN.vslice none (some (.i64, r5)) h5 rfl rfl rfl rfl rfl (by simp [optV]) (by simp [optV]; omega) (by simp [optV]; omega) (fun a1 c1 us hus v1 => ?_)
  have e1 : us = ints (l.take (getN ps most l.length)) := by
    rw [hus, ← hg]
    simp [optV, ints, List.map_take]
  clear hus
  subst e1
  refine CALL.by (clone_in v1 (by simp; omega)) rfl ?_
  rintro e w2 ⟨⟨a2, c2, rfl, v2⟩, x2⟩
  have hb1 := h4.lt
  replace h4 := x2.at h4
  replace h5 := VS.fm.ext h5 x2
  refine RUN.ld h4 rfl (rfl) ?_
  refine RUN.vslice (some (.i64, r5)) none h5 rfl rfl rfl rfl rfl (by simp [optV]; omega) (by simp [optV]; omega) (by simp [optV]) (fun a3 c3 us hus v3 => ?_)
  have e3 : us = ints (l.drop (getN ps most l.length)) := by
    rw [hus, ← hg]
    simp only [optV, ints, List.map_drop, List.length_map, Int.toNat_natCast]
    exact List.take_of_length_le (by simp)
  clear hus
  subst e3
  refine CALL.by (clone_in v3 (by simp; omega)) rfl ?_
  rintro e w3 ⟨⟨a4, c4, rfl, v4⟩, x4⟩
  replace h4 := x4.at h4
  replace v2 := VS.fm.mono v2 (fun y hy hs => (⟨hs, hy⟩ : w1.heap.size ≤ y ∧ y < w2.heap.size))
  replace v2 := VS.fm.ext v2 x4
  refine RUN.stl h4 rfl (by simp) (fun w4 u4 => ?_)
  have s1 := x1.size
  have s2 := x2.size
  refine hR _ _ ⟨a2, c2, _, fun y => y = b ∨ w2.heap.size ≤ y, rfl, VS.fm.ch v2 u4.ch (fun y hy hs => by omega), ⟨.inl rfl, a4, c4, u4.here, ?_⟩, fun y hy => ⟨by omega, by omega⟩, ?_, (((x1.trans' x2).trans' x4).toS).upd u4 (.inl h1)⟩
  · refine VS.fm.to v4 u4.ch fun y hy hs => ⟨by omega, .inr hs, by omega⟩
  · rintro y (rfl | hy)
    · exact .inl h1
    · exact .inr (by omega)
theorem qall_in {w : World} {S : Nat → Prop} {b : Nat} {l : List Int} (h : QAt w S b l) (hl : l.length ≤ 2 ^ 35) :
    Calls PP 121 #[pt b] w (fun e w' => (∃ a c, e = .returned (.slice a (ints l).length c) ∧ VS w' (fun y => w.heap.size ≤ y) 3 a c (ints l)) ∧ Ext w w') := by
  obtain ⟨h1, a0, c0, h4, h5⟩ := h
  refine calls_den (fn := Tryz.f121) (args := [_]) Tryz.func121 rfl (by simp) (fun R hR => ?_)
  refine RUN.ld h4 rfl (rfl) ?_
  refine CALL.by (clone_in h5 hl) rfl ?_
  rintro e w2 ⟨⟨a2, c2, rfl, v2⟩, x2⟩
  exact hR _ _ ⟨⟨a2, c2, rfl, v2⟩, x2⟩
end Go.E
end
