/- What a part of the heap says, and what leaves it so. -/
import Derived.Test.YtnbekdcepnfpaaaGreatDoorG04
set_option linter.unusedVariables false
set_option linter.unusedSimpArgs false
set_option maxRecDepth 10000
noncomputable section
namespace Go.E
open Go Go.Proofs

def ints (l : List Int) : List Value := l.map (fun n => Value.int .i64 n)
theorem ints_length (l : List Int) : (ints l).length = l.length := by simp [ints]
theorem ints_get {l : List Int} {i : Nat} {x : Int} (h : l[i]? = some x) : (ints l)[i]? = some (.int .i64 x) := by simp [ints, h]

theorem ints_one (l : List Int) : ∀ v ∈ ints l, v.oneCell' = true := by
  intro v hv
  obtain ⟨x, _, rfl⟩ := List.mem_map.1 hv
  rfl
theorem ints_app (l k : List Int) : ints (l ++ k) = ints l ++ ints k := by simp [ints]
theorem ints_set (l : List Int) (i : Nat) (x : Int) : (ints l).set i (i64 x) = ints (l.set i x) := by simp [ints, List.map_set]
theorem Ch.sub {w w1 w2 : World} {S U : Nat → Prop} (c : Ch S w w1) (h : Ch U w1 w2) (hu : ∀ y, U y → S y ∨ w.heap.size ≤ y) : Ch S w w2 :=
  c.trans h fun y hy hU => (hu y hU).resolve_right (by omega)
theorem Ch.upd {w w1 w2 : World} {S : Nat → Prop} {b : Nat} {o : Obj} (c : Ch S w w1) (u : Upd w1 w2 b o) (hb : S b ∨ w.heap.size ≤ b) : Ch S w w2 :=
  c.sub u.ch (by rintro y rfl; exact hb)
theorem Ch.new {w w1 w2 : World} {S : Nat → Prop} {b : Nat} {o : Obj} (c : Ch S w w1) (n : New w1 w2 b o) : Ch S w w2 := c.ext n.ext
theorem Ch.toS {w w1 : World} {S : Nat → Prop} (c : Ext w w1) : Ch S w w1 := Ext.ch c
/-- What depends on the blocks of S alone. -/
def Fm (P : World → (Nat → Prop) → Prop) : Prop := ∀ w w' S S', P w S → (∀ y, y < w.heap.size → S y → w'.heap[y]? = w.heap[y]? ∧ S' y) → P w' S'
theorem Fm.ch {P : World → (Nat → Prop) → Prop} (hP : Fm P) {w w' : World} {S U : Nat → Prop} (h : P w S) (hc : Ch U w w') (hd : ∀ y, y < w.heap.size → S y → ¬ U y) : P w' S :=
  hP w w' S S h fun y hy hs => ⟨hc.old y hy (hd y hy hs), hs⟩
theorem Fm.ext {P : World → (Nat → Prop) → Prop} (hP : Fm P) {w w' : World} {S : Nat → Prop} (h : P w S) (hc : Ext w w') : P w' S := hP.ch h hc fun _ _ _ => id
theorem Fm.mono {P : World → (Nat → Prop) → Prop} (hP : Fm P) {w : World} {S S' : Nat → Prop} (h : P w S) (hs : ∀ y, y < w.heap.size → S y → S' y) : P w S' :=
  hP w w S S' h fun y hy h => ⟨rfl, hs y hy h⟩
theorem Fm.to {P : World → (Nat → Prop) → Prop} (hP : Fm P) {w w' : World} {S S' U : Nat → Prop} (h : P w S) (hc : Ch U w w') (hd : ∀ y, y < w.heap.size → S y → ¬ U y ∧ S' y) : P w' S' :=
  hP w w' S S' h fun y hy hs => ⟨hc.old y hy (hd y hy hs).1, (hd y hy hs).2⟩
theorem At.fm {b : Nat} {o : Obj} : Fm (fun w S => S b ∧ At w b o) := fun w w' S S' h hf => ⟨(hf b h.2.lt h.1).2, (hf b h.2.lt h.1).1.trans h.2⟩
theorem Sl.fm {T k n : Nat} {v : Value} {cs : List Value} : Fm (fun w S => Sl w S T k v n cs) := by
  rintro w w' S S' ⟨h1, h2⟩ hf
  refine ⟨h1, ?_⟩
  rcases h2 with h2 | ⟨b, o, cap, pre, post, hv, hs, hat, h3, h4, h5⟩
  · exact .inl h2
  · exact .inr ⟨b, o, cap, pre, post, hv, (hf b hat.lt hs).2, (hf b hat.lt hs).1.trans hat, h3, h4, h5⟩
/-- What a part may come to: it, and what is new. -/
def Own (w : World) (S S' : Nat → Prop) : Prop := ∀ x, S' x → S x ∨ w.heap.size ≤ x
theorem Own.refl (w : World) (S : Nat → Prop) : Own w S S := fun x h => .inl h
theorem Own.trans {w w' : World} {S S' S'' : Nat → Prop} (h : Own w S S') (h' : Own w' S' S'') (hw : w.heap.size ≤ w'.heap.size) : Own w S S'' := by
  intro x hx
  rcases h' x hx with h1 | h1
  · exact h x h1
  · exact .inr (by omega)

/-- A slice of values of one cell each. -/
def VS (w : World) (S : Nat → Prop) (T : Nat) (a : Option Addr) (c : Nat) (vs : List Value) : Prop := Sl w S T 1 (.slice a vs.length c) vs.length vs
theorem VS.fm {T c : Nat} {a : Option Addr} {vs : List Value} : Fm (fun w S => VS w S T a c vs) := Sl.fm
theorem VS.nil (w : World) (S : Nat → Prop) (T : Nat) : VS w S T none 0 [] := Sl.nil w S T 1
theorem VS.of_new {w w' : World} {b T : Nat} {cs : List Value} (h : New w w' b (B cs T)) (S : Nat → Prop) (hs : S b) : VS w' S T (some ⟨b, 0, none⟩) cs.length cs := Sl.of_new h (by simp) S hs
theorem VS.open {w : World} {S : Nat → Prop} {T c : Nat} {a : Option Addr} {vs : List Value} (h : VS w S T a c vs) (hn : 0 < vs.length) :
    ∃ b o pre post, a = some ⟨b, o, none⟩ ∧ S b ∧ At w b (B (pre ++ vs ++ post) T) ∧ pre.length = o := by
  obtain ⟨h1, h2⟩ := h
  rcases h2 with ⟨h2, _⟩ | ⟨b, o, cap, pre, post, hv, hs, hat, h3, h4, h5⟩
  · omega
  · cases hv; exact ⟨b, o, pre, post, rfl, hs, hat, h3⟩
theorem VS.open' {w : World} {S : Nat → Prop} {T c : Nat} {a : Option Addr} {vs : List Value} (h : VS w S T a c vs) (hn : 0 < vs.length) :
    ∃ b o pre post, a = some ⟨b, o, none⟩ ∧ S b ∧ At w b (B (pre ++ vs ++ post) T) ∧ pre.length = o ∧
      (∀ w' i v, At w' b (B ((pre ++ vs ++ post).set (o + i * 1) v) T) → i < vs.length → VS w' S T a c (vs.set i v)) := by
  obtain ⟨h1, h2⟩ := h
  rcases h2 with ⟨h2, _⟩ | ⟨b, o, cap, pre, post, hv, hs, hat, h3, h4, h5⟩
  · omega
  · cases hv
    refine ⟨b, o, pre, post, rfl, hs, hat, h3, fun w' i v hu hi => ?_⟩
    refine ⟨by simp, .inr ⟨b, o, c, pre, post, by simp, hs, ?_, h3, by simpa using h4, by simpa using h5⟩⟩
    have := hu
    rw [List.append_assoc, List.set_append_right _ _ (by omega), List.set_append_left _ _ (by omega)] at this
    rw [show o + i * 1 - pre.length = i by omega] at this
    rw [List.append_assoc]
    exact this
theorem app_get {pre vs post : List Value} {i o o' : Nat} {v : Value} (hp : pre.length = o) (hi : vs[i]? = some v) (ho : o' = o + i * 1) : (pre ++ vs ++ post)[o']? = some v := by
  have hl : i < vs.length := by
    rcases Nat.lt_or_ge i vs.length with h | h
    · exact h
    · rw [List.getElem?_eq_none h] at hi; cases hi
  rw [List.append_assoc, List.getElem?_append_right (by omega), List.getElem?_append_left (by omega)]
  rw [show o' - pre.length = i by omega]
  exact hi
section
variable {ty : TypeId} {w : World} {K : Value → World → Prop} {X : List PanicEntry → World → Prop}
theorem RUN.vapp {t t' e eb e' c c' : Nat} {a a' : Option Addr} {args : Array Operand} {vs ys : List Value} {z : Value} {S U : Nat → Prop} (hs : VS w S e a c vs) (hx : VS w U e' a' c' ys)
    (ht : inTau t = true) (hk : (tau t).k = .slice e 1 eb) (ht' : (inTau t' && isSl (tau t').k) = true)
    (he : known e = true) (hz : (tau e).zero = some [z]) (hsc : ∀ v ∈ ys, v.oneCell' = true) (hb : vs.length + ys.length ≤ 2 ^ 36) (heb : Nat.ble eb 256 = true)
    (k : ∀ a c w', (∃ S' : Nat → Prop, Own w S S' ∧ VS w' S' e a c (vs ++ ys)) → Ch S w w' → K (.slice a (vs ++ ys).length c) w') :
    RUN (.call ⟨.builtin .append, args, #[t, t']⟩) ty [.slice a vs.length c, .slice a' ys.length c'] w K X := by
  refine RUN.append (cs := vs) (ys := ys) ht hk ht' he hz rfl hs hx hsc hb heb (fun a c w' h hc => ?_)
  obtain ⟨S', h1, h2⟩ := h
  have := k a c w' ⟨S', h1, by unfold VS; rw [List.length_append]; exact h2⟩ hc
  rwa [List.length_append] at this
/-- One value behind the others. -/
theorem RUN.vapp1 {t t' e eb e' b c : Nat} {a : Option Addr} {args : Array Operand} {vs : List Value} {v z : Value} {S : Nat → Prop} (hs : VS w S e a c vs) (hx : At w b (B [v] e'))
    (ht : inTau t = true) (hk : (tau t).k = .slice e 1 eb) (ht' : (inTau t' && isSl (tau t').k) = true)
    (he : known e = true) (hz : (tau e).zero = some [z]) (hsc : v.oneCell' = true) (hb : vs.length + 1 ≤ 2 ^ 36) (heb : Nat.ble eb 256 = true)
    (k : ∀ a c w', (∃ S' : Nat → Prop, Own w S S' ∧ VS w' S' e a c (vs ++ [v])) → Ch S w w' → K (.slice a (vs ++ [v]).length c) w') :
    RUN (.call ⟨.builtin .append, args, #[t, t']⟩) ty [.slice a vs.length c, .slice (some ⟨b, 0, none⟩) 1 1] w K X := by
  have hx' : VS w (fun _ => True) e' (some ⟨b, 0, none⟩) 1 [v] := ⟨rfl, .inr ⟨b, 0, 1, [], [], rfl, trivial, by simpa using hx, rfl, Nat.le_refl _, by simp⟩⟩
  exact RUN.vapp hs hx' ht hk ht' he hz (by simpa using hsc) hb heb k
theorem RUN.vslice {t e eb c : Nat} {a : Option Addr} {x : Operand} {lo hi : Option Operand} {args vs : List Value} {S : Nat → Prop} (vlo vhi : Option (IntKind × Int)) (hs : VS w S e a c vs) (ht : inTau t = true) (hk : (tau t).k = .slice e 1 eb)
    (hvs : args = .slice a vs.length c :: ((optVal vlo).toList ++ (optVal vhi).toList)) (hlo : lo.isSome = vlo.isSome) (hhi : hi.isSome = vhi.isSome)
    (h1 : 0 ≤ optV 0 vlo) (h2 : optV 0 vlo ≤ optV vs.length vhi) (h3 : optV vs.length vhi ≤ vs.length)
    (k : ∀ a' c' us, us = (vs.drop (optV 0 vlo).toNat).take ((optV vs.length vhi).toNat - (optV 0 vlo).toNat) → VS w S e a' c' us → K (.slice a' us.length c') w) : RUN (.slice t x lo hi none) ty args w K X := by
  obtain ⟨h4, h5⟩ := hs
  rcases h5 with ⟨h5, h6⟩ | ⟨b, o, cap, pre, post, hv, hS, hat, hp, hc, hpl⟩
  · have hv0 : vs = [] := List.eq_nil_of_length_eq_zero h5
    subst hv0
    cases h6
    refine RUN.sliceNil vlo vhi ht hk hvs hlo hhi ?_ ?_ (k none 0 _ (by simp) (Sl.nil _ _ _ _))
    · simp at h3; simp at h2; omega
    · simp at h3; simp at h2; omega
  · cases hv
    refine RUN.slice vlo vhi ht hk hvs hlo hhi hc h1 h2 (by omega) (fun o' n' c' ho hn hc' => ?_)
    generalize hl : optV 0 vlo = l at *
    generalize hh : optV vs.length vhi = h at *
    have hlen : ((vs.drop l.toNat).take (h.toNat - l.toNat)).length = n' := by simp; omega
    have := k (some ⟨b, o', none⟩) c' _ rfl ⟨by simp, .inr ⟨b, o', c', ?_⟩⟩
    · rwa [hlen] at this
    · by_cases hcl : (c : Int) = l
      · rw [if_pos hcl] at ho
        have he : (vs.drop l.toNat).take (h.toNat - l.toNat) = [] := List.eq_nil_of_length_eq_zero (by rw [hlen]; omega)
        rw [he]
        refine ⟨pre, vs ++ post, rfl, hS, by simpa using hat, by omega, by simp, by simp; omega⟩
      · rw [if_neg hcl] at ho
        refine ⟨pre ++ vs.take l.toNat, vs.drop h.toNat ++ post, rfl, hS, ?_, by simp; omega, by rw [hlen]; omega, by rw [hlen]; simp; omega⟩
        have e1 : pre ++ vs.take l.toNat ++ (vs.drop l.toNat).take (h.toNat - l.toNat) ++ (vs.drop h.toNat ++ post) = pre ++ vs ++ post := by
          have e2 : vs.drop l.toNat = (vs.drop l.toNat).take (h.toNat - l.toNat) ++ vs.drop h.toNat := by
            have := (List.take_append_drop (h.toNat - l.toNat) (vs.drop l.toNat)).symm
            rw [List.drop_drop] at this
            rw [show l.toNat + (h.toNat - l.toNat) = h.toNat by omega] at this
            exact this
          have e3 : vs = vs.take l.toNat ++ vs.drop l.toNat := (List.take_append_drop _ _).symm
          calc pre ++ vs.take l.toNat ++ (vs.drop l.toNat).take (h.toNat - l.toNat) ++ (vs.drop h.toNat ++ post)
              = pre ++ (vs.take l.toNat ++ ((vs.drop l.toNat).take (h.toNat - l.toNat) ++ vs.drop h.toNat)) ++ post := by simp
            _ = pre ++ (vs.take l.toNat ++ vs.drop l.toNat) ++ post := by rw [← e2]
            _ = pre ++ vs ++ post := by rw [← e3]
        rw [e1]
        exact hat
end
end Go.E
end
/- Goroutines' states; the phases; nobody sleeps. -/
set_option linter.unusedVariables false
set_option maxRecDepth 10000
noncomputable section
namespace Go.E
open Go Go.Proofs

/-- How many are in a state. -/
def cntI (k : Int) (l : List Int) : Int := ((l.count k : Nat) : Int)
theorem cntI_app (k x : Int) (l : List Int) : cntI k (l ++ [x]) = cntI k l + (if x = k then 1 else 0) := by
  unfold cntI
  rw [List.count_append]
  by_cases h : x = k
  · subst h; simp
  · simp [h]
theorem cntI_set {k x y : Int} : ∀ {l : List Int} {i : Nat}, l[i]? = some x → cntI k (l.set i y) = cntI k l - (if x = k then 1 else 0) + (if y = k then 1 else 0)
  | [], i, h => by simp at h
  | z :: r, 0, h => by
    simp at h
    subst h
    simp only [cntI, List.set_cons_zero, List.count_cons]
    by_cases h1 : z = k <;> by_cases h2 : y = k <;> simp [h1, h2] <;> omega
  | z :: r, i + 1, h => by
    have ih := cntI_set (k := k) (y := y) (l := r) (i := i) (by simpa using h)
    simp only [cntI, List.set_cons_succ, List.count_cons] at ih ⊢
    by_cases h1 : z = k <;> simp [h1] at ih ⊢ <;> omega
theorem cntI_bd (k : Int) (l : List Int) : 0 ≤ cntI k l ∧ cntI k l ≤ l.length := by
  unfold cntI
  have := List.count_le_length (a := k) (l := l)
  omega
theorem cntI_pos {k : Int} {l : List Int} {i : Nat} (h : l[i]? = some k) : 0 < cntI k l := by
  unfold cntI
  have := List.count_pos_iff.2 (List.mem_of_getElem? h)
  omega
theorem cntI_ge {k : Int} {l : List Int} : 0 ≤ cntI k l := (cntI_bd k l).1

/-- The cells of the states. -/
def stC (a : Option Addr) (c : Nat) (l : List Int) : List Value :=
  [.slice a (ints l).length c, i64 (cntI 0 l), i64 (cntI 1 l), i64 (cntI 2 l), i64 (cntI 3 l), i64 (cntI 4 l), i64 (cntI 5 l)]
def StAt (w : World) (S : Nat → Prop) (b : Nat) (l : List Int) : Prop :=
  S b ∧ l.length ≤ 1024 ∧ (∀ x ∈ l, 1 ≤ x ∧ x ≤ 5) ∧ ∃ a c, At w b (B (stC a c l) 181) ∧ VS w (fun x => S x ∧ x ≠ b) 3 a c (ints l)
theorem StAt.fm {b : Nat} {l : List Int} : Fm (fun w S => StAt w S b l) := by
  rintro w w' S S' ⟨h1, h2, h3, a, c, h4, h5⟩ hf
  exact ⟨(hf b h4.lt h1).2, h2, h3, a, c, (hf b h4.lt h1).1.trans h4, VS.fm w w' _ _ h5 fun y hy hs => ⟨(hf y hy hs.1).1, (hf y hy hs.1).2, hs.2⟩⟩
theorem state_new (w : World) : Calls PP 93 #[] w (fun e w' => ∃ b, e = .returned (pt b) ∧ StAt w' (· = b) b [] ∧ w.heap.size ≤ b ∧ Ext w w') := by
  refine calls_den (fn := Tryz.f93) (args := []) Tryz.func93 rfl (by simp) (fun R hR => ?_)
  refine RUN.box (fun b1 w1 n1 => ?_)
  refine hR _ _ ⟨b1, rfl, ⟨rfl, by simp, by simp, none, 0, n1.here, VS.nil _ _ _⟩, by have := n1.blk; omega, n1.ext⟩
theorem st_get {a : Option Addr} {c : Nat} {l : List Int} {k : Int} (h : 0 ≤ k ∧ k < 6) {o : Nat} (ho : o = 1 + k.toNat * 1) : (stC a c l)[o]? = some (i64 (cntI k l)) := by
  have : k = 0 ∨ k = 1 ∨ k = 2 ∨ k = 3 ∨ k = 4 ∨ k = 5 := by omega
  subst ho
  rcases this with rfl | rfl | rfl | rfl | rfl | rfl <;> rfl
theorem count_in {w : World} {S : Nat → Prop} {b : Nat} {l : List Int} {k : Int} (hk : 1 ≤ k ∧ k ≤ 5) (h : StAt w S b l) : Calls PP 57 #[pt b, i64 k] w (Pure w (i64 (cntI k l))) := by
  obtain ⟨h1, h2, h3, a, c, h4, h5⟩ := h
  refine calls_den (fn := Tryz.f57) (args := [_, _]) Tryz.func57 rfl (by simp) (fun R hR => ?_)
  refine CLt.yes (by omega) ?_
  refine CLt.no (by omega) ?_
  refine BD.mk (1 + k.toNat * 1) (by first | exact ⟨by decide, by decide, rfl⟩ | exact ⟨by omega, by omega, by omega⟩) ?_
  refine RUN.ld h4 rfl ((st_get ⟨by omega, by omega⟩ rfl)) ?_
  exact hR _ _ ⟨rfl, Ext.refl w⟩
theorem stlen_in {w : World} {S : Nat → Prop} {b : Nat} {l : List Int} (h : StAt w S b l) : Calls PP 58 #[pt b] w (Pure w (i64 l.length)) := by
  obtain ⟨h1, h2, h3, a, c, h4, h5⟩ := h
  refine calls_den (fn := Tryz.f58) (args := [_]) Tryz.func58 rfl (by simp) (fun R hR => ?_)
  refine RUN.ld h4 rfl (rfl) ?_
  refine LEN.mk ((l.length : Int)) (by first | rfl | simp [ints] | (simp [ints]; omega)) ?_
  exact hR _ _ ⟨rfl, Ext.refl w⟩
/-- The turns that may be. -/
def wayb (f t : Int) : Bool := (f == 1 && t == 2) || (f == 2 && (t == 1 || t == 3 || t == 4 || t == 5)) || (f == 3 && t == 1) || (f == 4 && t == 1)
def rowW (f : Int) : List Value := [.bool (wayb f 0), .bool (wayb f 1), .bool (wayb f 2), .bool (wayb f 3), .bool (wayb f 4), .bool (wayb f 5)]
def waysL : List Value := rowW 0 ++ rowW 1 ++ rowW 2 ++ rowW 3 ++ rowW 4 ++ rowW 5
theorem ways_any (w : World) : Calls PP 204 #[] w (Pure w (.agg waysL.toArray)) := by
  refine calls_den (fn := Tryz.f204) (args := []) Tryz.func204 rfl (by simp) (fun R hR => ?_)
  refine RUN.alloc rfl rfl (fun b0 w0 n0 => ?_)
  refine RUN.alloc rfl rfl (fun b1 w1 n1 => ?_)
  refine BD.mk (0 + 1 * 6) (by first | exact ⟨by decide, by decide, rfl⟩ | exact ⟨by omega, by omega, by omega⟩) ?_
  refine BD.mk (6 + 2 * 1) (by first | exact ⟨by decide, by decide, rfl⟩ | exact ⟨by omega, by omega, by omega⟩) ?_
  refine RUN.stb n1.here rfl (by simp) (fun w2 u2 => ?_)
  refine RUN.buildSlice rfl rfl rfl rfl rfl rfl rfl (fun b2 w3 n3 => ?_)
  have a0 := n3.at (u2.at (n1.at n0.here) (n1.ne n0.here))
  have a1 := n3.at u2.here
  have d0 := n1.ne n0.here
  have d2 := n3.ne (u2.at (n1.at n0.here) (n1.ne n0.here))
  have d3 := n3.ne u2.here
  have x3 : Ext w w3 := ((n0.ext.trans' n1.ext).trans u2.ch (fun x hx hb => by have := n1.blk; have := n0.ext.size; omega)).trans' n3.ext
  have s0 := n0.blk
  have s1 := n1.blk
  refine LEN.mk (4) (by first | rfl | simp [ints] | (simp [ints]; omega)) ?_
  refine LOOP.rounds 5 ?_
  refine CLt.yes (by omega) ?_
  refine BD.mk (0 + 0 * 1) (by first | exact ⟨by decide, by decide, rfl⟩ | exact ⟨by omega, by omega, by omega⟩) ?_
  refine RUN.ld n3.here rfl (rfl) ?_
  refine BD.mk (0 + 2 * 6) (by first | exact ⟨by decide, by decide, rfl⟩ | exact ⟨by omega, by omega, by omega⟩) ?_
  refine BD.mk (12 + 1 * 1) (by first | exact ⟨by decide, by decide, rfl⟩ | exact ⟨by omega, by omega, by omega⟩) ?_
  refine RUN.stb a1 rfl (by simp) (fun w4 u4 => ?_)
  refine ART.add (by omega) (fun r1 g1 => ?_)
  have p4 := u4.at n3.here (Ne.symm d3)
  subst g1
  refine CLt.yes (by omega) ?_
  refine BD.mk (0 + 1 * 1) (by first | exact ⟨by decide, by decide, rfl⟩ | exact ⟨by omega, by omega, by omega⟩) ?_
  refine RUN.ld p4 rfl (rfl) ?_
  refine BD.mk (0 + 2 * 6) (by first | exact ⟨by decide, by decide, rfl⟩ | exact ⟨by omega, by omega, by omega⟩) ?_
  refine BD.mk (12 + 3 * 1) (by first | exact ⟨by decide, by decide, rfl⟩ | exact ⟨by omega, by omega, by omega⟩) ?_
  refine RUN.stb u4.here rfl (by simp) (fun w5 u5 => ?_)
  refine ART.add (by omega) (fun r2 g2 => ?_)
  have p5 := u5.at p4 (Ne.symm d3)
  subst g2
  refine CLt.yes (by omega) ?_
  refine BD.mk (0 + 2 * 1) (by first | exact ⟨by decide, by decide, rfl⟩ | exact ⟨by omega, by omega, by omega⟩) ?_
  refine RUN.ld p5 rfl (rfl) ?_
  refine BD.mk (0 + 2 * 6) (by first | exact ⟨by decide, by decide, rfl⟩ | exact ⟨by omega, by omega, by omega⟩) ?_
  refine BD.mk (12 + 4 * 1) (by first | exact ⟨by decide, by decide, rfl⟩ | exact ⟨by omega, by omega, by omega⟩) ?_
  refine RUN.stb u5.here rfl (by simp) (fun w6 u6 => ?_)
  refine ART.add (by omega) (fun r3 g3 => ?_)
  have p6 := u6.at p5 (Ne.symm d3)
  subst g3
  refine CLt.yes (by omega) ?_
  refine BD.mk (0 + 3 * 1) (by first | exact ⟨by decide, by decide, rfl⟩ | exact ⟨by omega, by omega, by omega⟩) ?_
  refine RUN.ld p6 rfl (rfl) ?_
  refine BD.mk (0 + 2 * 6) (by first | exact ⟨by decide, by decide, rfl⟩ | exact ⟨by omega, by omega, by omega⟩) ?_
  refine BD.mk (12 + 5 * 1) (by first | exact ⟨by decide, by decide, rfl⟩ | exact ⟨by omega, by omega, by omega⟩) ?_
  refine RUN.stb u6.here rfl (by simp) (fun w7 u7 => ?_)
  refine ART.add (by omega) (fun r4 g4 => ?_)
  subst g4
  refine CLt.no (by omega) ?_
  refine BD.mk (0 + 3 * 6) (by first | exact ⟨by decide, by decide, rfl⟩ | exact ⟨by omega, by omega, by omega⟩) ?_
  refine BD.mk (18 + 1 * 1) (by first | exact ⟨by decide, by decide, rfl⟩ | exact ⟨by omega, by omega, by omega⟩) ?_
  refine RUN.stb u7.here rfl (by simp) (fun w8 u8 => ?_)
  refine BD.mk (0 + 4 * 6) (by first | exact ⟨by decide, by decide, rfl⟩ | exact ⟨by omega, by omega, by omega⟩) ?_
  refine BD.mk (24 + 1 * 1) (by first | exact ⟨by decide, by decide, rfl⟩ | exact ⟨by omega, by omega, by omega⟩) ?_
  refine RUN.stb u8.here rfl (by simp) (fun w9 u9 => ?_)
  have q0 := u9.at (u8.at (u7.at (u6.at (u5.at (u4.at a0 d0) d0) d0) d0) d0) d0
  have x9 : Ext w w9 := x3.trans (((((u4.ch.trans' u5.ch).trans' u6.ch).trans' u7.ch).trans' u8.ch).trans' u9.ch) (fun x hx hb => by have := n0.ext.size; omega)
  refine RUN.lda (vs := waysL) u9.here rfl (by decide) (by kernel_rfl) ?_
  refine RUN.sta (vs := waysL) q0 rfl (by decide) (by decide) (fun w10 u10 => ?_)
  refine RUN.lda (vs := waysL) u10.here rfl (by decide) (by kernel_rfl) ?_
  exact ⟨rfl, hR _ _ ⟨rfl, x9.trans u10.ch (fun x hx hb => by omega)⟩⟩
theorem rowW_take {f : Int} (h : 0 ≤ f ∧ f < 6) : (waysL.drop (f.toNat * 6)).take 6 = rowW f := by
  have : f = 0 ∨ f = 1 ∨ f = 2 ∨ f = 3 ∨ f = 4 ∨ f = 5 := by omega
  rcases this with rfl | rfl | rfl | rfl | rfl | rfl <;> rfl
theorem rowW_get {f t : Int} (h : 0 ≤ t ∧ t < 6) : (rowW f)[t.toNat * 1]? = some (.bool (wayb f t)) := by
  have : t = 0 ∨ t = 1 ∨ t = 2 ∨ t = 3 ∨ t = 4 ∨ t = 5 := by omega
  rcases this with rfl | rfl | rfl | rfl | rfl | rfl <;> rfl
theorem stmay_in {f t : Int} (hf : 0 ≤ f ∧ f < 6) (ht : 0 ≤ t ∧ t < 6) (w : World) : Calls PP 148 #[i64 f, i64 t] w (Pure w (.bool (wayb f t))) := by
  refine calls_den (fn := Tryz.f148) (args := [_, _]) Tryz.func148 rfl (by simp) (fun R hR => ?_)
  refine CLt.no (by omega) ?_
  refine CLt.yes (by omega) ?_
  refine CLt.no (by omega) ?_
  refine CLt.yes (by omega) ?_
  refine CALL.by (ways_any w) rfl ?_
  rintro e w1 ⟨rfl, x1⟩
  refine RUN.indexA (vs := rowW f) rfl rfl rfl rfl (by omega) (rowW_take hf) ?_
  refine RUN.index (v := .bool (wayb f t)) rfl rfl rfl (by omega) (rowW_get ht) ?_
  exact hR _ _ ⟨rfl, x1⟩
theorem of_get {l : List Int} {g : Int} (h : 0 ≤ g ∧ g < l.length) : ∃ x, l[g.toNat]? = some x := ⟨l[g.toNat]'(by omega), List.getElem?_eq_getElem (by omega)⟩
theorem stof_in {w : World} {S : Nat → Prop} {b : Nat} {l : List Int} {g x : Int} (hg : 0 ≤ g) (hx : l[g.toNat]? = some x) (h : StAt w S b l) : Calls PP 66 #[pt b, i64 g] w (Pure w (i64 x)) := by
  obtain ⟨h1, h2, h3, a, c, h4, h5⟩ := h
  have hl : g.toNat < l.length := by
    rcases Nat.lt_or_ge g.toNat l.length with h | h
    · exact h
    · rw [List.getElem?_eq_none h] at hx; cases hx
  obtain ⟨rb, ro, pre, post, rfl, r1, r2, r3⟩ := h5.open (by simp [ints]; omega)
  refine calls_den (fn := Tryz.f66) (args := [_, _]) Tryz.func66 rfl (by simp) (fun R hR => ?_)
  refine CLt.no (by omega) ?_
  refine RUN.ld h4 rfl (rfl) ?_
  refine LEN.mk ((l.length : Int)) (by first | rfl | simp [ints] | (simp [ints]; omega)) ?_
  refine CLt.yes (by omega) ?_
  refine RUN.ld h4 rfl (rfl) ?_
  refine BD.mk (ro + g.toNat * 1) ⟨hg, by simp [ints]; omega, rfl⟩ ?_
  refine RUN.ld r2 rfl ((app_get r3 (ints_get hx) rfl)) ?_
  exact hR _ _ ⟨rfl, Ext.refl w⟩
theorem six {x : Int} (h : 0 ≤ x ∧ x < 6) : x = 0 ∨ x = 1 ∨ x = 2 ∨ x = 3 ∨ x = 4 ∨ x = 5 := by omega
theorem st_upd {a : Option Addr} {c : Nat} {l : List Int} {g : Nat} {x t : Int} (hx : l[g]? = some x) (h1 : 0 ≤ x ∧ x < 6) (h2 : 0 ≤ t ∧ t < 6) (hne : x ≠ t) :
    ((stC a c l).set (1 + x.toNat * 1) (i64 (cntI x l - 1))).set (1 + t.toNat * 1) (i64 (cntI t l + 1)) = stC a c (l.set g t) := by
  have e : ∀ k, cntI k (l.set g t) = cntI k l - (if x = k then 1 else 0) + (if t = k then 1 else 0) := fun k => cntI_set hx
  have e2 : (ints (l.set g t)).length = (ints l).length := by simp [ints]
  unfold stC
  rw [e2, e, e, e, e, e, e]
  rcases six h1 with rfl | rfl | rfl | rfl | rfl | rfl <;> rcases six h2 with rfl | rfl | rfl | rfl | rfl | rfl <;> first | (exact absurd rfl hne) | simp
theorem wayb_ne {x t : Int} (h : wayb x t = true) : x ≠ t := by
  rintro rfl
  simp [wayb] at h
  omega
/-- A turn that may be. -/
theorem move_in {w : World} {S : Nat → Prop} {b : Nat} {l : List Int} {g x t : Int} (hg : 0 ≤ g) (hx : l[g.toNat]? = some x) (hw : wayb x t = true) (ht : 1 ≤ t ∧ t ≤ 5) (h : StAt w S b l) :
    Calls PP 102 #[pt b, i64 g, i64 t] w (fun e w' => e = .returned (i64 0) ∧ StAt w' S b (l.set g.toNat t) ∧ Ch S w w') := by
  have h0 := h
  obtain ⟨h1, h2, h3, a, c, h4, h5⟩ := h
  have hl : g.toNat < l.length := by
    rcases Nat.lt_or_ge g.toNat l.length with h | h
    · exact h
    · rw [List.getElem?_eq_none h] at hx; cases hx
  have hx5 := h3 x (List.mem_of_getElem? hx)
  have hne := wayb_ne hw
  have hc1 := cntI_bd x l
  have hc2 := cntI_bd t l
  obtain ⟨rb, ro, pre, post, rfl, r1, r2, r3, r4⟩ := h5.open' (by simp [ints]; omega)
  have hil : (ints l).length = l.length := by simp [ints]
  refine calls_den (fn := Tryz.f102) (args := [_, _, _]) Tryz.func102 rfl (by simp) (fun R hR => ?_)
  refine CALL.by (stof_in hg hx h0) rfl ?_
  rintro e w1 ⟨rfl, x1⟩
  replace h4 := x1.at h4
  replace r2 := x1.at r2
  refine CEq.no (by omega) ?_
  refine RUN.ld h4 rfl (rfl) ?_
  refine BD.mk (ro + g.toNat * 1) ⟨hg, by omega, rfl⟩ ?_
  refine RUN.ld r2 rfl ((app_get r3 (ints_get hx) rfl)) ?_
  refine CALL.by (stmay_in ⟨by omega, by omega⟩ ⟨by omega, by omega⟩ w1) rfl ?_
  rw [hw]
  rintro e w2 ⟨rfl, x2⟩
  replace h4 := x2.at h4
  replace r2 := x2.at r2
  refine DRAW.q 15 (qs 15 0) (by kernel_rfl) (fun _ _ _ _ _ h => h) ?_
  refine RUNQ.ld h4 rfl (rfl) ?_
  refine BD.mk (ro + g.toNat * 1) ⟨hg, by omega, rfl⟩ ?_
  refine RUNQ.ld r2 rfl ((app_get r3 (ints_get hx) rfl)) ?_
  refine BD.mk (1 + x.toNat * 1) ⟨by omega, by omega, rfl⟩ ?_
  refine RUNQ.ld h4 rfl ((st_get ⟨by omega, by omega⟩ rfl)) ?_
  refine ART.sub (by omega) (fun d hd => ?_)
  intro w3 x3
  replace h4 := x3.at h4
  replace r2 := x3.at r2
  refine BD.mk (1 + x.toNat * 1) ⟨by omega, by omega, rfl⟩ ?_
  refine RUN.sti h4 rfl (by simp [stC]; omega) (fun w4 u4 => ?_)
  have h4' := u4.here
  have r2' := u4.at r2 r1.2
  subst hd
  refine DRAW.q 9 (qs 9 0) (by kernel_rfl) (fun _ _ _ _ _ h => h) ?_
  refine BD.mk (1 + t.toNat * 1) ⟨by omega, by omega, rfl⟩ ?_
  refine RUNQ.ld h4' rfl ((by rw [List.getElem?_set_ne (by omega)]; exact st_get ⟨by omega, by omega⟩ rfl)) ?_
  refine ART.add (by omega) (fun d hd => ?_)
  intro w5 x5
  replace h4' := x5.at h4'
  replace r2' := x5.at r2'
  refine BD.mk (1 + t.toNat * 1) ⟨by omega, by omega, rfl⟩ ?_
  refine RUN.sti h4' rfl (by simp [stC]; omega) (fun w6 u6 => ?_)
  subst hd
  have h6 := u6.here
  rw [st_upd hx (by omega) (by omega) hne] at h6
  have r6 := u6.at r2' r1.2
  refine RUN.ld h6 rfl (rfl) ?_
  refine BD.mk (ro + g.toNat * 1) ⟨hg, by simp [ints]; omega, rfl⟩ ?_
  refine RUN.sti r6 rfl (by simp [ints]; omega) (fun w7 u7 => ?_)
  have v7 := r4 w7 g.toNat (i64 t) u7.here (by omega)
  rw [ints_set] at v7
  refine hR _ _ ⟨rfl, ⟨h1, by simpa using h2, ?_, _, c, u7.at h6 (Ne.symm r1.2), v7⟩, ?_⟩
  · intro y hy
    rcases List.mem_or_eq_of_mem_set hy with hy | rfl
    · exact h3 y hy
    · exact ht
  · exact (((((x1.trans' x2).trans' x3).toS.upd u4 (.inl h1)).ext x5).upd u6 (.inl h1)).upd u7 (.inl r1.1)
theorem spawn_in {w : World} {S : Nat → Prop} {b : Nat} {l : List Int} (hl : l.length < 1024) (h : StAt w S b l) :
    Calls PP 145 #[pt b] w (fun e w' => e = .returned (.tuple #[i64 l.length, i64 0]) ∧ (∃ S', Own w S S' ∧ StAt w' S' b (l ++ [1])) ∧ Ch S w w') := by
  obtain ⟨h1, h2, h3, a, c, h4, h5⟩ := h
  have hc1 := cntI_bd 1 l
  have hil : (ints l).length = l.length := by simp [ints]
  refine calls_den (fn := Tryz.f145) (args := [_]) Tryz.func145 rfl (by simp) (fun R hR => ?_)
  refine RUN.ld h4 rfl (rfl) ?_
  refine LEN.mk ((l.length : Int)) (by first | rfl | simp [ints] | (simp [ints]; omega)) ?_
  refine CLt.yes (by omega) ?_
  refine RUN.ld h4 rfl (rfl) ?_
  refine RUN.buildSlice rfl rfl rfl rfl rfl rfl rfl (fun b2 w2 n2 => ?_)
  replace h4 := n2.at h4
  refine RUN.vapp1 (VS.fm.ext h5 n2.ext) n2.here rfl rfl rfl rfl rfl rfl (by omega) rfl (fun a' c' w3 hv h3c => ?_)
  obtain ⟨S3, o3, v3⟩ := hv
  have hbw := h4.lt
  replace h4 := h3c.at h4 (fun hh => hh.2 rfl)
  refine RUN.stl h4 rfl (by simp [stC]) (fun w4 u4 => ?_)
  have h4' := u4.here
  have c4 : Ch S w w4 := (n2.ext.toS.sub h3c (fun y hy => .inl hy.1)).upd u4 (.inl h1)
  refine DRAW.q 8 (qs 8 0) (by kernel_rfl) (fun _ _ _ _ _ h => h) ?_
  refine BD.mk (1 + 1 * 1) (by first | exact ⟨by decide, by decide, rfl⟩ | exact ⟨by omega, by omega, by omega⟩) ?_
  refine RUNQ.ld h4' rfl (rfl) ?_
  refine ART.add (by omega) (fun d hd => ?_)
  intro w5 x5
  replace h4' := x5.at h4'
  subst hd
  refine BD.mk (1 + 1 * 1) (by first | exact ⟨by decide, by decide, rfl⟩ | exact ⟨by omega, by omega, by omega⟩) ?_
  refine RUN.sti h4' rfl (by simp [stC]) (fun w6 u6 => ?_)
  refine RUN.ld u6.here rfl (rfl) ?_
  refine LEN.mk ((l.length + 1 : Int)) (by first | rfl | simp [ints] | (simp [ints]; omega)) ?_
  refine ART.sub (by omega) (fun g hg => ?_)
  have : g = l.length := by omega
  subst this
  refine hR _ _ ⟨rfl, ⟨fun y => y = b ∨ S3 y, ?_, .inl rfl, by simp; omega, ?_, a', c', ?_, ?_⟩, (c4.ext x5).upd u6 (.inl h1)⟩
  · rintro y (rfl | hy)
    · exact .inl h1
    · rcases o3 y hy with h | h
      · exact .inl h.1
      · have := n2.ext.size; exact .inr (by omega)
  · intro y hy
    rcases List.mem_append.1 hy with hy | hy
    · exact h3 y hy
    · simp at hy; omega
  · have h6 := u6.here
    have : ((stC a c l).set (0 + 0) (.slice a' (ints l ++ [Value.int IntKind.i64 1]).length c')).set (1 + 1 * 1) (i64 (cntI 1 l + 1)) = stC a' c' (l ++ [1]) := by
      simp [stC, cntI_app, ints]
    rwa [this] at h6
  · rw [ints_app]
    refine VS.fm.to (U := (· = b)) v3 ((((Ch.refl (· = b) w3).upd u4 (.inl rfl)).ext x5).upd u6 (.inl rfl)) fun y hy hs => ?_
    have hyb : y ≠ b := by
      rcases o3 y hs with h | h
      · exact h.2
      · omega
    exact ⟨hyb, .inr hs, hyb⟩
theorem spawn_full {w : World} {S : Nat → Prop} {b : Nat} {l : List Int} (hl : l.length = 1024) (h : StAt w S b l) :
    Calls PP 145 #[pt b] w (fun e w' => e = .returned (.tuple #[i64 0, i64 3]) ∧ Ext w w') := by
  obtain ⟨h1, h2, h3, a, c, h4, h5⟩ := h
  refine calls_den (fn := Tryz.f145) (args := [_]) Tryz.func145 rfl (by simp) (fun R hR => ?_)
  refine RUN.ld h4 rfl (rfl) ?_
  refine LEN.mk ((l.length : Int)) (by first | rfl | simp [ints] | (simp [ints]; omega)) ?_
  refine CLt.no (by omega) ?_
  exact hR _ _ ⟨rfl, Ext.refl w⟩
end Go.E
end
