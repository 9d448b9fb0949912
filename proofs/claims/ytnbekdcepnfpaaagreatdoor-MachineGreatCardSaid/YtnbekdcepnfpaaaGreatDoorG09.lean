/- What is made at the beginning. -/
import Derived.Test.YtnbekdcepnfpaaaGreatDoorG08
set_option linter.unusedVariables false
set_option linter.unusedSimpArgs false
set_option maxRecDepth 10000
noncomputable section
namespace Go.E
open Go Go.Proofs

theorem sched_new {ps : Int} (hp : 1 ≤ ps ∧ ps ≤ 64) (w : World) : Calls PP 91 #[i64 ps] w (fun e w' => ∃ b, e = .returned (.tuple #[pt b, i64 0]) ∧ ScAt w' (fun y => w.heap.size ≤ y) b (List.replicate ps.toNat []) [] ∧ Ext w w') := by
  refine calls_den (fn := Tryz.f91) (args := [_]) Tryz.func91 rfl (by simp) (fun R hR => ?_)
  refine CLt.no (by omega) ?_
  refine CLt.no (by omega) ?_
  refine CALL.by (queue_new w) rfl ?_
  rintro e w1 ⟨qb, rfl, q1, hq, x1⟩
  refine RUN.box (fun b2 w2 n2 => ?_)
  have l2 := n2.blk
  have z1 := x1.size
  refine LOOP.inv (X := Nat) (fun i => [(4, pt b2), (14, i64 ps), (15, i64 i)]) (fun i w' => (i : Int) ≤ ps ∧ (∃ col a c rbs, ScX w' (fun y => w.heap.size ≤ y) b2 (List.replicate i []) [] col a c rbs qb) ∧ Ext w w' ∧ b2 < w'.heap.size) (fun i => ps.toNat - i) 0 ⟨rfl, rfl, rfl, trivial⟩ ?_ ?_
  · have q1l := q1
    refine ⟨by omega, ⟨fun y => if y = b2 then 0 else if y = qb then 3 else 1, none, 0, [], by omega, by simp, n2.here, VS.nil _ _ _, ⟨rfl, List.nodup_nil, by simp⟩, QAt.fm.mono (QAt.fm.ext q1 n2.ext) (fun y hy hs => ?_)⟩, x1.trans' n2.ext, n2.here.lt⟩
    subst hs
    have : y ≠ b2 := by
      obtain ⟨_, a, c, h4, _⟩ := q1l
      have := h4.lt
      omega
    refine ⟨by omega, ?_⟩
    simp only [if_neg this, if_true]
  rintro i w3 ⟨hi, ⟨col, a, c, rbs, hX⟩, x3, hbl⟩ j
  by_cases hlt : (i : Int) < ps
  · have hX0 := hX
    obtain ⟨h0, h1, h2, h3, h4, h5⟩ := hX.old
    have hlen : rbs.length = i := by rw [h4.1]; simp
    refine CLt.yes (by omega) ?_
    refine DRAW.q 8 [(0, .q), (1, .q), (2, .q), (3, .q), (4, .q), (5, .s), (6, .s), (7, .f)] (by kernel_rfl) (fun _ _ _ _ _ h => h) ?_
    refine RUNQ.ld h2 rfl (rfl) ?_
    intro w4 x4 _
    refine CALL.by (ring_new w4) rfl ?_
    rintro e w5 ⟨rb, rfl, g5, hrb, x5⟩
    refine ⟨x4.trans' x5, ?_⟩
    intro w6 x6 _
    refine RUN.buildSlice rfl rfl rfl rfl rfl rfl rfl (fun b7 w7 n7 => ?_)
    refine ⟨(x4.trans' x5).trans' (x6.trans' n7.ext), ?_⟩
    intro w8 x8 _
    have z4 := x4.size
    have z5 := x5.size
    have z6 := x6.size
    have z7 := n7.ext.size
    have z8 := x8.size
    have l7 := n7.blk
    have z3 := x3.size
    have x38 : Ext w3 w8 := (((x4.trans' x5).trans' x6).trans' n7.ext).trans' x8
    refine RUN.vapp1 (VS.fm.ext h3 x38) (x8.at n7.here) rfl rfl rfl rfl rfl rfl (by rw [pts_len]; omega) rfl (fun a' c' w9 hv hc => ?_)
    obtain ⟨S9, o9, v9⟩ := hv
    have hrl : rb < w5.heap.size := g5.2.2.choose_spec.choose_spec.choose_spec.2.2.2.lt
    intro w10 x10
    have z9 := hc.size
    have z10 := x10.size
    have nb : ¬ ((w.heap.size ≤ b2 ∧ b2 < w3.heap.size) ∧ col b2 = 1) := fun hh => by have := hh.2; omega
    refine RUN.stl (x10.at (hc.at (Ext.at x38 h2) nb)) rfl (by simp) (fun w11 u11 => ?_)
    refine ART.add (by omega) (fun k hk => ?_)
    subst hk
    have c9 : Ch (fun y => (w.heap.size ≤ y ∧ y < w3.heap.size) ∧ col y ≠ 2 ∧ col y ≠ 3) w3 w11 :=
      .upd (.ext (.sub (.toS x38) hc (fun y hy => .inl ⟨hy.1, by have := hy.2; omega, by have := hy.2; omega⟩)) x10) u11 (.inl ⟨⟨h0.1, by omega⟩, by omega, by omega⟩)
    refine Nxt.mk (i + 1) ?_ ?_ ?_
    · exact ⟨rfl, rfl, rfl, trivial⟩
    · refine ⟨by omega, ⟨fun y => if y < w3.heap.size then col y else if y = rb then 2 else 1, a', c', rbs ++ [rb], h0.1, by rw [if_pos (by omega)]; exact h1, ?_, ?_, ?_, ?_⟩, ?_, by have := u11.here.lt; exact this⟩
      · have := u11.here
        rw [pts_app]
        exact this
      · rw [pts_app]
        refine VS.fm.to v9 ((x10.toS (S := fun y => y = b2)).upd u11 (.inl rfl)) fun y hy hs => ?_
        rcases o9 y hs with hs | hs
        · exact ⟨fun hh => by have := hs.2; subst hh; omega, hs.1.1, by rw [if_pos hs.1.2]; exact hs.2⟩
        · exact ⟨by omega, by omega, by rw [if_neg (by omega), if_neg (by omega)]⟩
      · have hr0 := RsAt.fm.ch h4 c9 (fun y hy hs hh => hh.2.1 hs.2)
        have hg : RgAt w11 (fun y => y = rb) rb [] := by
          have g8 := (RgAt.fm.ext g5 (x6.trans' (n7.ext.trans' x8)))
          exact (((g8.ch1 hc (fun hh => by omega)).ch1 x10 id).ch1 u11.ch (by omega))
        refine ⟨by simp [hlen], ?_, fun k r row hk hrow => ?_⟩
        · rw [List.nodup_append]
          refine ⟨h4.2.1, by simp, fun x hx y hy => ?_⟩
          obtain ⟨k, hk⟩ := List.getElem?_of_mem hx
          have := (h4.2.2 k x [] hk (by rw [List.getElem?_replicate, if_pos (by have := (List.getElem?_eq_some_iff.1 hk).1; omega)])).1.1.2
          simp at hy
          omega
        · have hrow' : row = [] := by
            rw [List.getElem?_replicate] at hrow
            split at hrow
            · cases hrow; rfl
            · cases hrow
          subst hrow'
          by_cases hki : k < i
          · rw [List.getElem?_append_left (by omega)] at hk
            refine RgAt.fm.mono (hr0.2.2 k r [] hk (by rw [List.getElem?_replicate, if_pos hki])) fun y hy hs => ⟨hs.1.1, by rw [if_pos hs.1.2]; exact hs.2⟩
          · have hk2 : k = i := by
              have := (List.getElem?_eq_some_iff.1 hk).1
              simp at this; omega
            subst hk2
            rw [List.getElem?_append_right (by omega), hlen, Nat.sub_self] at hk
            cases hk
            refine RgAt.fm.mono hg fun y hy hs => ?_
            subst hs
            exact ⟨by omega, by rw [if_neg (by omega), if_pos rfl]⟩
      · refine QAt.fm.to h5 c9 fun y hy hs => ⟨fun hh => hh.2.2 hs.2, hs.1.1, by rw [if_pos hs.1.2]; exact hs.2⟩
      · exact x3.trans c9 (fun y hy hh => by have := hh.1.1; omega)
    · omega
  · refine CLt.no (by omega) ?_
    have : i = ps.toNat := by omega
    subst this
    exact hR _ _ ⟨b2, rfl, hX.to, x3⟩
end Go.E
end
/- Parts side by side, each with its colour. -/
set_option linter.unusedVariables false
set_option linter.unusedSimpArgs false
set_option maxRecDepth 10000
noncomputable section
namespace Go.E
open Go Go.Proofs

/-- A part, and that it hangs on its own blocks alone. -/
structure Cmp where
  P : World → (Nat → Prop) → Prop
  fm : Fm P
def Side (w : World) (S : Nat → Prop) (Ps : List Cmp) : Prop := ∃ col : Nat → Nat, ∀ (i : Nat) (c : Cmp), Ps[i]? = some c → c.P w (fun y => S y ∧ col y = i)
theorem Side.fm {Ps : List Cmp} : Fm (fun w S => Side w S Ps) := by
  rintro w w' S S' ⟨col, h⟩ hf
  exact ⟨col, fun i c hi => c.fm w w' _ _ (h i c hi) fun y hy hs => ⟨(hf y hy hs.1).1, (hf y hy hs.1).2, hs.2⟩⟩
theorem Side.get {w : World} {S : Nat → Prop} {Ps : List Cmp} {c : Cmp} (h : Side w S Ps) (i : Nat) (hi : Ps[i]? = some c) : c.P w S := by
  obtain ⟨col, h⟩ := h
  exact c.fm.mono (h i c hi) fun y _ hs => hs.1
theorem set_get {α : Type _} {l : List α} {i j : Nat} {a x : α} (h : (l.set i a)[j]? = some x) : (j = i ∧ x = a) ∨ (j ≠ i ∧ l[j]? = some x) := by
  by_cases hj : j = i
  · subst hj
    have hl := (List.getElem?_eq_some_iff.1 h).1
    rw [List.getElem?_set_self (by simpa using hl)] at h
    exact .inl ⟨rfl, (Option.some.inj h).symm⟩
  · rw [List.getElem?_set_ne (Ne.symm hj)] at h
    exact .inr ⟨hj, h⟩
/-- One part turns, the others stay. -/
theorem Side.step {w : World} {S : Nat → Prop} {Ps : List Cmp} {c : Cmp} (h : Side w S Ps) (i : Nat) (hi : Ps[i]? = some c) :
    ∃ Si : Nat → Prop, (∀ y, Si y → S y ∧ y < w.heap.size) ∧ c.P w Si ∧ ∀ {w' : World} {Si' : Nat → Prop} (c' : Cmp), Ch Si w w' → Own w Si Si' → c'.P w' Si' →
      Side w' (fun y => (S y ∧ y < w.heap.size) ∨ (w.heap.size ≤ y ∧ Si' y)) (Ps.set i c') := by
  obtain ⟨col, h⟩ := h
  refine ⟨fun y => (S y ∧ y < w.heap.size) ∧ col y = i, fun y hy => hy.1, c.fm.mono (h i c hi) fun y hy hs => ⟨⟨hs.1, hy⟩, hs.2⟩, ?_⟩
  intro w' Si' c' hc ho hP
  refine ⟨fun y => if y < w.heap.size then col y else i, fun j x hj => ?_⟩
  rcases set_get hj with ⟨rfl, rfl⟩ | ⟨hne, hj⟩
  · refine x.fm.mono hP fun y hy hs => ?_
    rcases ho y hs with h1 | h1
    · exact ⟨.inl h1.1, (if_pos h1.1.2).trans h1.2⟩
    · exact ⟨.inr ⟨h1, hs⟩, if_neg (by omega)⟩
  · refine x.fm.to (h j x hj) hc fun y hy hs => ⟨fun hh => hne (hs.2.symm.trans hh.2), .inl ⟨hs.1, hy⟩, (if_pos hy).trans hs.2⟩
/-- A part, written in one block. -/
def cAt (b : Nat) (o : Obj) : Cmp := ⟨fun w S => S b ∧ At w b o, At.fm⟩

/-- How a call stands: what it changed, what is its own, its parts. -/
structure Rn (w0 : World) (S0 : Nat → Prop) (w : World) (S : Nat → Prop) (Ps : List Cmp) : Prop where
  cc : Ch S0 w0 w
  oo : Own w0 S0 S
  bd : ∀ y, S y → y < w.heap.size
  sd : Side w S Ps
theorem Rn.start {w : World} {S : Nat → Prop} {Ps : List Cmp} (h : Side w S Ps) : ∃ S', (∀ y, S' y → S y) ∧ Rn w S w S' Ps :=
  ⟨fun y => S y ∧ y < w.heap.size, fun y hy => hy.1, Ch.refl _ _, fun y hy => .inl hy.1, fun y hy => hy.2, Side.fm.mono h fun y hy hs => ⟨hs, hy⟩⟩
theorem Rn.fin {w0 w : World} {S0 S : Nat → Prop} {Ps : List Cmp} (h : Rn w0 S0 w S Ps) : Side w (Nw w0 S0) Ps := Side.fm.mono h.sd fun y _ hy => h.oo y hy
theorem Rn.get {w0 w : World} {S0 S : Nat → Prop} {Ps : List Cmp} {c : Cmp} (h : Rn w0 S0 w S Ps) (i : Nat) (hi : Ps[i]? = some c) : c.P w S := h.sd.get i hi
theorem Rn.ext {w0 w w' : World} {S0 S : Nat → Prop} {Ps : List Cmp} (h : Rn w0 S0 w S Ps) (x : Ext w w') : Rn w0 S0 w' S Ps :=
  ⟨h.cc.ext x, h.oo, fun y hy => Nat.lt_of_lt_of_le (h.bd y hy) x.size, Side.fm.ext h.sd x⟩
/-- What was made by this call, and is not among the parts, may turn. -/
theorem Rn.ch {w0 w w' : World} {S0 S U : Nat → Prop} {Ps : List Cmp} (h : Rn w0 S0 w S Ps) (c : Ch U w w') (hU : ∀ y, U y → w0.heap.size ≤ y ∧ ¬ S y) : Rn w0 S0 w' S Ps :=
  ⟨h.cc.sub c fun y hy => .inr (hU y hy).1, h.oo, fun y hy => Nat.lt_of_lt_of_le (h.bd y hy) c.size, Side.fm.ch h.sd c fun y _ hs hh => (hU y hh).2 hs⟩
theorem Rn.upd {w0 w w' : World} {S0 S : Nat → Prop} {Ps : List Cmp} {b : Nat} {o : Obj} (h : Rn w0 S0 w S Ps) (u : Upd w w' b o) (hb : w0.heap.size ≤ b) (hS : ¬ S b) : Rn w0 S0 w' S Ps :=
  h.ch u.ch (by rintro y rfl; exact ⟨hb, hS⟩)
theorem Rn.fresh {w0 w w' : World} {S0 S : Nat → Prop} {Ps : List Cmp} {b : Nat} {o : Obj} (h : Rn w0 S0 w S Ps) (n : New w w' b o) : Rn w0 S0 w' S Ps ∧ At w' b o ∧ ¬ S b ∧ w0.heap.size ≤ b :=
  ⟨h.ext n.ext, n.here, fun hs => by have := h.bd b hs; have := n.blk; omega, by have := h.cc.size; have := n.blk; omega⟩
theorem Rn.step {w0 w : World} {S0 S : Nat → Prop} {Ps : List Cmp} {c : Cmp} (h : Rn w0 S0 w S Ps) (i : Nat) (hi : Ps[i]? = some c) :
    ∃ Si : Nat → Prop, (∀ y, Si y → S y) ∧ c.P w Si ∧ ∀ {w' : World} {Si' : Nat → Prop} (c' : Cmp), Ch Si w w' → Own w Si Si' → c'.P w' Si' →
      ∃ S', Rn w0 S0 w' S' (Ps.set i c') ∧ (∀ {b : Nat} {o : Obj}, At w b o → ¬ S b → At w' b o ∧ ¬ S' b) ∧ (∀ y, y < w.heap.size → ¬ S y → ¬ S' y) := by
  obtain ⟨Si, h1, h2, h3⟩ := h.sd.step i hi
  refine ⟨Si, fun y hy => (h1 y hy).1, h2, fun {w' Si'} c' hc ho hP => ⟨fun y => ((S y ∧ y < w.heap.size) ∨ (w.heap.size ≤ y ∧ Si' y)) ∧ y < w'.heap.size, ⟨h.cc.sub hc fun y hy => h.oo y (h1 y hy).1, ?_, fun y hy => hy.2, Side.fm.mono (h3 c' hc ho hP) fun y hy hs => ⟨hs, hy⟩⟩, ?_, ?_⟩⟩
  · rintro y ⟨hy | hy, _⟩
    · exact h.oo y hy.1
    · have := h.cc.size; exact .inr (by omega)
  · intro b o hb hS
    exact ⟨hc.at hb fun hh => hS (h1 b hh).1, fun hh => by rcases hh.1 with hh | hh; exact hS hh.1; have := hb.lt; omega⟩
  · intro y hy hS hh
    rcases hh.1 with hh | hh
    · exact hS hh.1
    · omega
/-- A store into a part that is one block. -/
theorem Rn.st {w0 w w' : World} {S0 S : Nat → Prop} {Ps : List Cmp} {b : Nat} {o o' : Obj} (h : Rn w0 S0 w S Ps) (i : Nat) (hi : Ps[i]? = some (cAt b o)) (u : Upd w w' b o') :
    Rn w0 S0 w' S (Ps.set i (cAt b o')) := by
  obtain ⟨col, hs⟩ := h.sd
  have hb := hs i _ hi
  refine ⟨h.cc.upd u (h.oo b hb.1.1), h.oo, fun y hy => by rw [u.size]; exact h.bd y hy, col, fun j x hj => ?_⟩
  rcases set_get hj with ⟨rfl, rfl⟩ | ⟨hne, hj⟩
  · exact ⟨hb.1, u.here⟩
  · exact x.fm.ch (hs j x hj) u.ch fun y hy hs' hh => hne (hs'.2.symm.trans (hh ▸ hb.1.2))

/-! Records: blocks with their cells -/
def RcAt (w : World) (S : Nat → Prop) (T : Nat) (bs : List Nat) (cs : List (List Value)) : Prop :=
  bs.length = cs.length ∧ bs.Nodup ∧ ∀ (i b : Nat) (c : List Value), bs[i]? = some b → cs[i]? = some c → S b ∧ At w b (B c T)
theorem RcAt.fm {T : Nat} {bs : List Nat} {cs : List (List Value)} : Fm (fun w S => RcAt w S T bs cs) := by
  rintro w w' S S' ⟨h1, h2, h3⟩ hf
  exact ⟨h1, h2, fun i b c hb hc => At.fm w w' S S' (h3 i b c hb hc) hf⟩
def cRc (T : Nat) (bs : List Nat) (cs : List (List Value)) : Cmp := ⟨fun w S => RcAt w S T bs cs, RcAt.fm⟩
theorem RcAt.at {w : World} {S : Nat → Prop} {T : Nat} {bs : List Nat} {cs : List (List Value)} (h : RcAt w S T bs cs) {i : Nat} {c : List Value} (hc : cs[i]? = some c) : ∃ b, bs[i]? = some b ∧ S b ∧ At w b (B c T) := by
  have hl := (List.getElem?_eq_some_iff.1 hc).1
  have hb : bs[i]? = some (bs[i]'(by rw [h.1]; exact hl)) := List.getElem?_eq_getElem _
  exact ⟨_, hb, h.2.2 i _ c hb hc⟩
theorem RcAt.upd {w w' : World} {S : Nat → Prop} {T : Nat} {bs : List Nat} {cs : List (List Value)} (h : RcAt w S T bs cs) {i b : Nat} {c' : List Value} (hb : bs[i]? = some b) (u : Upd w w' b (B c' T)) : RcAt w' S T bs (cs.set i c') := by
  obtain ⟨h1, h2, h3⟩ := h
  refine ⟨by simpa using h1, h2, fun k r x hk hx => ?_⟩
  have hli : i < cs.length := by rw [← h1]; exact (List.getElem?_eq_some_iff.1 hb).1
  rcases set_get hx with ⟨rfl, rfl⟩ | ⟨hne, hx⟩
  · rw [hb] at hk
    cases hk
    have := h3 k b _ hb (List.getElem?_eq_getElem hli)
    exact ⟨this.1, u.here⟩
  · have := h3 k r x hk hx
    exact ⟨this.1, u.at this.2 (nodup_ne h2 hk hb hne)⟩
theorem RcAt.app {w w' : World} {S S' : Nat → Prop} {T b : Nat} {bs : List Nat} {cs : List (List Value)} {c : List Value} (h : RcAt w S T bs cs) (x : Ext w w') (hS : ∀ y, S y → S' y) (hb : At w' b (B c T)) (hn : w.heap.size ≤ b) (hSb : S' b) : RcAt w' S' T (bs ++ [b]) (cs ++ [c]) := by
  obtain ⟨h1, h2, h3⟩ := h
  have old : ∀ y ∈ bs, y < w.heap.size := by
    intro y hy
    obtain ⟨i, hi⟩ := List.getElem?_of_mem hy
    have hl := (List.getElem?_eq_some_iff.1 hi).1
    exact (h3 i y _ hi (List.getElem?_eq_getElem (by rw [← h1]; exact hl))).2.lt
  refine ⟨by simp [h1], ?_, fun k r z hk hz => ?_⟩
  · rw [List.nodup_append]
    refine ⟨h2, by simp, fun y hy z hz => ?_⟩
    have := old y hy
    simp at hz; omega
  · by_cases hkl : k < bs.length
    · rw [List.getElem?_append_left hkl] at hk
      rw [List.getElem?_append_left (by omega)] at hz
      have := h3 k r z hk hz
      exact ⟨hS _ this.1, x.at this.2⟩
    · have hk2 : k = bs.length := by
        have := (List.getElem?_eq_some_iff.1 hk).1
        simp at this; omega
      subst hk2
      rw [List.getElem?_append_right (by omega), Nat.sub_self] at hk
      rw [h1, List.getElem?_append_right (by omega), Nat.sub_self] at hz
      cases hk; cases hz
      exact ⟨hSb, hb⟩
/-- A record among the parts: its block; and how it turns. -/
theorem Rn.recAt {w0 w : World} {S0 S : Nat → Prop} {Ps : List Cmp} {T : Nat} {bs : List Nat} {cs : List (List Value)} (h : Rn w0 S0 w S Ps) (i : Nat) (hi : Ps[i]? = some (cRc T bs cs)) {k : Nat} {c : List Value} (hc : cs[k]? = some c) :
    ∃ b, bs[k]? = some b ∧ S b ∧ At w b (B c T) := by
  exact (h.get i hi).at hc
theorem Rn.strec {w0 w w' : World} {S0 S : Nat → Prop} {Ps : List Cmp} {T : Nat} {bs : List Nat} {cs : List (List Value)} (h : Rn w0 S0 w S Ps) (i : Nat) (hi : Ps[i]? = some (cRc T bs cs)) {k b : Nat} {c' : List Value} (hb : bs[k]? = some b)
    (u : Upd w w' b (B c' T)) : Rn w0 S0 w' S (Ps.set i (cRc T bs (cs.set k c'))) := by
  obtain ⟨col, hs⟩ := h.sd
  have hr := hs i _ hi
  have hlb : k < cs.length := by rw [← hr.1]; exact (List.getElem?_eq_some_iff.1 hb).1
  have hbb := (hr.2.2 k b _ hb (List.getElem?_eq_getElem hlb)).1
  refine ⟨h.cc.upd u (h.oo b hbb.1), h.oo, fun y hy => by rw [u.size]; exact h.bd y hy, col, fun j x hj => ?_⟩
  rcases set_get hj with ⟨rfl, rfl⟩ | ⟨hne, hj⟩
  · exact hr.upd hb u
  · exact x.fm.ch (hs j x hj) u.ch fun y hy hs' hh => hne (hs'.2.symm.trans (hh ▸ hbb.2))
/-- Boxes outside the parts stay when a part is written. -/
theorem Upd.keep {w w' : World} {b y : Nat} {o o' : Obj} {S : Nat → Prop} (u : Upd w w' b o) (hy : At w y o') (hS : ¬ S y) (hb : S b) : At w' y o' := u.at hy (by rintro rfl; exact hS hb)

/-! What is made anew -/
theorem Rn.nil (w : World) : Rn w (fun _ => False) w (fun _ => False) [] := ⟨Ch.refl _ _, fun y h => h.elim, fun y h => h.elim, ⟨fun _ => 0, fun i c h => by simp at h⟩⟩
theorem Rn.ext0 {w0 w : World} {S : Nat → Prop} {Ps : List Cmp} (h : Rn w0 (fun _ => False) w S Ps) : Ext w0 w := h.cc
theorem Rn.add {w0 w w' : World} {S0 S T : Nat → Prop} {Ps : List Cmp} (h : Rn w0 S0 w S Ps) (c : Cmp) (x : Ext w w') (hc : c.P w' T) (hT : ∀ y, T y → w.heap.size ≤ y) :
    ∃ S', Rn w0 S0 w' S' (Ps ++ [c]) ∧ (∀ y, y < w.heap.size → ¬ S y → ¬ S' y) := by
  obtain ⟨col, hs⟩ := h.sd
  refine ⟨fun y => (S y ∨ T y) ∧ y < w'.heap.size, ⟨h.cc.ext x, ?_, fun y hy => hy.2, fun y => if y < w.heap.size then col y else Ps.length, fun i p hi => ?_⟩, ?_⟩
  · rintro y ⟨hy | hy, _⟩
    · exact h.oo y hy
    · have := hT y hy; have := h.cc.size; exact .inr (by omega)
  · by_cases hl : i < Ps.length
    · rw [List.getElem?_append_left hl] at hi
      exact p.fm.to (hs i p hi) x fun y hy hh => ⟨id, ⟨.inl hh.1, by have := x.size; omega⟩, (if_pos hy).trans hh.2⟩
    · have hil := (List.getElem?_eq_some_iff.1 hi).1
      simp at hil
      have : i = Ps.length := by omega
      subst this
      rw [List.getElem?_append_right (Nat.le_refl _), Nat.sub_self] at hi
      cases hi
      exact c.fm.mono hc fun y hy hh => ⟨⟨.inr hh, hy⟩, if_neg (by have := hT y hh; omega)⟩
  · rintro y hy hn ⟨hh | hh, _⟩
    · exact hn hh
    · have := hT y hh; omega
/-- A block that has been made is a part. -/
theorem Rn.add1 {w0 w w' : World} {S0 S : Nat → Prop} {Ps : List Cmp} {b : Nat} {o : Obj} (h : Rn w0 S0 w S Ps) (n : New w w' b o) : ∃ S', Rn w0 S0 w' S' (Ps ++ [cAt b o]) ∧ (∀ y, y < w.heap.size → ¬ S y → ¬ S' y) :=
  h.add (cAt b o) n.ext (T := fun y => y = b) ⟨rfl, n.here⟩ (by rintro y rfl; have := n.blk; omega)
/-- The parts in another order. -/
theorem Side.pick {w : World} {S : Nat → Prop} {Ps Qs : List Cmp} (h : Side w S Ps) (f g : Nat → Nat) (hf : ∀ i c, Qs[i]? = some c → Ps[f i]? = some c) (hg : ∀ i, i < Qs.length → g (f i) = i) : Side w S Qs := by
  obtain ⟨col, hs⟩ := h
  refine ⟨fun y => g (col y), fun i c hi => c.fm.mono (hs (f i) c (hf i c hi)) fun y hy hh => ⟨hh.1, ?_⟩⟩
  show g (col y) = i
  rw [hh.2]
  exact hg i (List.getElem?_eq_some_iff.1 hi).1
theorem Rn.pick {w0 w : World} {S0 S : Nat → Prop} {Ps Qs : List Cmp} (h : Rn w0 S0 w S Ps) (f g : Nat → Nat) (hf : ∀ i c, Qs[i]? = some c → Ps[f i]? = some c) (hg : ∀ i, i < Qs.length → g (f i) = i) : Rn w0 S0 w S Qs :=
  ⟨h.cc, h.oo, h.bd, h.sd.pick f g hf hg⟩
end Go.E
end
/- Slices whose elements are rows of cells; rows of numbers side by side. -/
set_option linter.unusedVariables false
set_option linter.unusedSimpArgs false
set_option maxRecDepth 10000
noncomputable section
namespace Go.E
open Go Go.Proofs

theorem flat_len {k : Nat} : ∀ {rs : List (List Value)}, (∀ r ∈ rs, r.length = k) → rs.flatten.length = rs.length * k
  | [], _ => by simp
  | r :: rs, h => by
    rw [List.flatten_cons, List.length_append, flat_len (fun x hx => h x (by simp [hx])), h r (by simp), List.length_cons, Nat.succ_mul, Nat.add_comm]
theorem flat_take {k : Nat} : ∀ {rs : List (List Value)} {i : Nat} {r : List Value}, (∀ r ∈ rs, r.length = k) → rs[i]? = some r → (rs.flatten.drop (i * k)).take k = r
  | [], i, r, _, h => by simp at h
  | x :: rs, 0, r, hl, h => by
    simp at h
    subst h
    rw [List.flatten_cons, Nat.zero_mul, List.drop_zero, List.take_append_of_le_length (by rw [hl x (by simp)]; exact Nat.le_refl _), List.take_of_length_le (by rw [hl x (by simp)]; exact Nat.le_refl _)]
  | x :: rs, i + 1, r, hl, h => by
    have hx := hl x (by simp)
    rw [List.flatten_cons, Nat.succ_mul, Nat.add_comm, ← hx, List.drop_append, hx]
    simp only [Nat.add_sub_cancel_left]
    rw [List.drop_eq_nil_of_le (by rw [hx]; omega), List.nil_append]
    exact flat_take (fun y hy => hl y (by simp [hy])) (by simpa using h)
theorem flat_get {k : Nat} {rs : List (List Value)} {i j : Nat} {r : List Value} {v : Value} (hl : ∀ r ∈ rs, r.length = k) (h : rs[i]? = some r) (hj : r[j]? = some v) : rs.flatten[i * k + j]? = some v := by
  have h1 := flat_take hl h
  have hr := hl r (List.mem_of_getElem? h)
  have hjl := (List.getElem?_eq_some_iff.1 hj).1
  have : ((rs.flatten.drop (i * k)).take k)[j]? = some v := by rw [h1]; exact hj
  rw [List.getElem?_take_of_lt (by omega), List.getElem?_drop] at this
  exact this
theorem flat_set {k : Nat} : ∀ {rs : List (List Value)} {i j : Nat} {r : List Value} {v : Value}, (∀ r ∈ rs, r.length = k) → rs[i]? = some r → j < k → rs.flatten.set (i * k + j) v = (rs.set i (r.set j v)).flatten
  | [], i, j, r, v, _, h, _ => by simp at h
  | x :: rs, 0, j, r, v, hl, h, hj => by
    simp at h
    subst h
    have hx := hl x (by simp)
    simp only [List.flatten_cons, Nat.zero_mul, Nat.zero_add, List.set_cons_zero]
    rw [List.set_append_left _ _ (by omega)]
  | x :: rs, i + 1, j, r, v, hl, h, hj => by
    have hx := hl x (by simp)
    simp only [List.flatten_cons, List.set_cons_succ]
    rw [List.set_append_right _ _ (by rw [hx, Nat.succ_mul]; omega), hx, ← flat_set (fun y hy => hl y (by simp [hy])) (by simpa using h) hj]
    congr 2
    rw [Nat.succ_mul]; omega

/-- A slice whose elements are rows of k cells. -/
def MSl (w : World) (S : Nat → Prop) (T k : Nat) (a : Option Addr) (c : Nat) (rs : List (List Value)) : Prop :=
  (∀ r ∈ rs, r.length = k) ∧ Sl w S T k (.slice a rs.length c) rs.length rs.flatten
theorem MSl.fm {T k c : Nat} {a : Option Addr} {rs : List (List Value)} : Fm (fun w S => MSl w S T k a c rs) :=
  fun w w' S S' h hf => ⟨h.1, Sl.fm w w' S S' h.2 hf⟩
theorem MSl.nil (w : World) (S : Nat → Prop) (T k : Nat) : MSl w S T k none 0 [] := ⟨by simp, Sl.nil _ _ _ _⟩
theorem MSl.open {w : World} {S : Nat → Prop} {T k c : Nat} {a : Option Addr} {rs : List (List Value)} (h : MSl w S T k a c rs) (hn : 0 < rs.length) :
    ∃ b o pre post, a = some ⟨b, o, none⟩ ∧ S b ∧ At w b (B (pre ++ rs.flatten ++ post) T) ∧ pre.length = o ∧
      (∀ w' i j v r, At w' b (B ((pre ++ rs.flatten ++ post).set (o + i * k + j) v) T) → rs[i]? = some r → j < k → MSl w' S T k a c (rs.set i (r.set j v))) := by
  obtain ⟨hk, h1, h2⟩ := h
  rcases h2 with ⟨h2, _⟩ | ⟨b, o, cap, pre, post, hv, hs, hat, h3, h4, h5⟩
  · omega
  · cases hv
    refine ⟨b, o, pre, post, rfl, hs, hat, h3, fun w' i j v r hu hr hj => ?_⟩
    have hrl := hk r (List.mem_of_getElem? hr)
    have hk' : ∀ x ∈ rs.set i (r.set j v), x.length = k := by
      intro x hx
      rcases List.mem_or_eq_of_mem_set hx with hx | rfl
      · exact hk x hx
      · simpa using hrl
    refine ⟨hk', ?_⟩
    rw [List.length_set]
    refine ⟨by rw [flat_len hk', List.length_set], .inr ⟨b, o, c, pre, post, rfl, hs, ?_, h3, h4, h5⟩⟩
    have hil := (List.getElem?_eq_some_iff.1 hr).1
    have hfl := flat_len hk
    have hb : i * k + j < rs.length * k := by
      have : (i + 1) * k ≤ rs.length * k := Nat.mul_le_mul_right _ hil
      rw [Nat.succ_mul] at this; omega
    rw [List.append_assoc, List.set_append_right _ _ (by omega), List.set_append_left _ _ (by omega)] at hu
    rw [show o + i * k + j - pre.length = i * k + j by omega, flat_set hk hr hj] at hu
    rw [List.append_assoc]
    exact hu
/-- A cell of an element; all its cells. -/
theorem mapp_get {pre post : List Value} {rs : List (List Value)} {k i j o o' : Nat} {r : List Value} {v : Value} (hk : ∀ r ∈ rs, r.length = k) (hp : pre.length = o) (hr : rs[i]? = some r) (hj : r[j]? = some v) (ho : o' = o + i * k + j) : (pre ++ rs.flatten ++ post)[o']? = some v := by
  have h := flat_get hk hr hj
  have hl := (List.getElem?_eq_some_iff.1 h).1
  rw [List.append_assoc, List.getElem?_append_right (by omega), List.getElem?_append_left (by omega), ← h]
  congr 1; omega
theorem mapp_row {pre post : List Value} {rs : List (List Value)} {k i o o' : Nat} {r : List Value} (hk : ∀ r ∈ rs, r.length = k) (hp : pre.length = o) (hr : rs[i]? = some r) (ho : o' = o + i * k) : ((pre ++ rs.flatten ++ post).drop o').take k = r := by
  have hil := (List.getElem?_eq_some_iff.1 hr).1
  have hfl := flat_len hk
  have hb : (i + 1) * k ≤ rs.length * k := Nat.mul_le_mul_right _ hil
  rw [Nat.succ_mul] at hb
  have h := flat_take hk hr
  subst ho
  rw [List.append_assoc, List.drop_append, List.drop_eq_nil_of_le (by omega), List.nil_append, show o + i * k - pre.length = i * k by omega, List.drop_append, List.take_append, List.length_drop]
  rw [show k - (rs.flatten.length - i * k) = 0 by omega, List.take_zero, List.append_nil]
  exact h
theorem mapp_len {pre post : List Value} {rs : List (List Value)} {k i o o' : Nat} (hk : ∀ r ∈ rs, r.length = k) (hp : pre.length = o) (hi : i < rs.length) (ho : o' = o + i * k) : o' + k ≤ (pre ++ rs.flatten ++ post).length := by
  have hfl := flat_len hk
  have hb : (i + 1) * k ≤ rs.length * k := Nat.mul_le_mul_right _ hi
  rw [Nat.succ_mul] at hb
  simp only [List.length_append]
  omega
section
variable {ty : TypeId} {w : World} {K : Value → World → Prop} {X : List PanicEntry → World → Prop}
/-- One element behind the others. -/
theorem RUN.mapp1 {t t' e esz eb e' b c : Nat} {a : Option Addr} {args : Array Operand} {rs : List (List Value)} {r z : List Value} {S : Nat → Prop} (hs : MSl w S e esz a c rs) (hx : At w b (B r e')) (hr : r.length = esz)
    (ht : inTau t = true) (hk : (tau t).k = .slice e esz eb) (ht' : (inTau t' && isSl (tau t').k) = true)
    (he : known e = true) (hz : (tau e).zero = some z) (hzl : Nat.beq z.length esz = true) (hsc : ∀ v ∈ r, v.oneCell' = true) (hb : rs.length + 1 ≤ 2 ^ 36) (heb : Nat.ble eb 256 = true)
    (k : ∀ a c w', (∃ S' : Nat → Prop, Own w S S' ∧ MSl w' S' e esz a c (rs ++ [r])) → Ch S w w' → K (.slice a (rs ++ [r]).length c) w') :
    RUN (.call ⟨.builtin .append, args, #[t, t']⟩) ty [.slice a rs.length c, .slice (some ⟨b, 0, none⟩) 1 1] w K X := by
  have hx' : Sl w (fun _ => True) e' esz (.slice (some ⟨b, 0, none⟩) 1 1) 1 r := ⟨by omega, .inr ⟨b, 0, 1, [], [], rfl, trivial, by simpa using hx, rfl, Nat.le_refl _, by simp⟩⟩
  refine RUN.append ht hk ht' he hz hzl hs.2 hx' hsc hb heb (fun a c w' h hc => ?_)
  obtain ⟨S', h1, h2⟩ := h
  have e1 : (rs ++ [r]).flatten = rs.flatten ++ r := by simp
  have := k a c w' ⟨S', h1, fun x hx => by
    rcases List.mem_append.1 hx with hx | hx
    · exact hs.1 x hx
    · simp at hx; subst hx; exact hr, by rw [List.length_append, e1]; exact h2⟩ hc
  rwa [List.length_append] at this
end

/-! Rows of numbers -/
structure Rw where
  a : Option Addr
  c : Nat
  l : List Int
def Rw.v (r : Rw) : Value := .slice r.a (ints r.l).length r.c
def cVS (T : Nat) (a : Option Addr) (c : Nat) (vs : List Value) : Cmp := ⟨fun w S => VS w S T a c vs, VS.fm⟩
def cMSl (T k : Nat) (a : Option Addr) (c : Nat) (rs : List (List Value)) : Cmp := ⟨fun w S => MSl w S T k a c rs, MSl.fm⟩
def cRw (r : Rw) : Cmp := cVS 3 r.a r.c (ints r.l)
theorem cons_set {α β : Type _} {x : β} {f : α → β} {l : List α} {i : Nat} {r : α} : (x :: l.map f).set (i + 1) (f r) = x :: (l.set i r).map f := by simp [List.map_set]
end Go.E
end
