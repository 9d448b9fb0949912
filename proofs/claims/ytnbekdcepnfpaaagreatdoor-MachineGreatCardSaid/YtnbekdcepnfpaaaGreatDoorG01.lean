/- Lemmas. -/
import Derived.WalkKit
import Derived.LoopN
import Derived.Test.YtnbekdcepnfpaaaGreatDoorG00
set_option linter.unusedVariables false
set_option linter.unusedSimpArgs false
set_option maxRecDepth 10000
noncomputable section
namespace Go.E
open Go


/-! ### Soundness -/
def resOK (r : Result Next) (K : Value → World → Prop) (X : List PanicEntry → World → Prop) : Prop :=
  match r with
  | .ok (.value v) w' => K v w'
  | .ok .skip w' => K undef w'
  | .ok (.enter f args) w' => Calls PP f args w' (fun e w'' => match e with | .returned v => K v w'' | .panicked c => X c w'' | .outgrown => False)
  | .halt (.panic v) w' => X [{ v, recovered := false }] w'
  | _ => False

theorem upon_of_res {o : Oper} {a : Act} {K' : Act → World → Prop} {Q : Exit → Act → World → Prop} {r : Result Next}
    {K : Value → World → Prop} {X : List PanicEntry → World → Prop} (h : resOK r K X)
    (hK : ∀ v w', K v w' → K' (a.put o.dst v) w') (hX : ∀ c w', X c w' → Q (.panic c) a w') : o.upon PP a K' Q r := by
  unfold resOK at h
  split at h
  · exact hK _ _ h
  · exact hK _ _ h
  · refine Calls.mono h fun e w'' he => ?_
    cases e with
    | returned v => exact hK _ _ he
    | panicked c => exact hX _ _ he
    | outgrown => exact he.elim
  · exact hX _ _ h
  · exact h.elim

theorem res_value {K : Value → World → Prop} {X : List PanicEntry → World → Prop} {s : Sem Next} {v : Value} {w w' : World}
    (h : s.run PP w = .ok (.value v) w') (k : K v w') : resOK (s.run PP w) K X := by rw [h]; exact k

theorem RUN_res {op : Op} {ty : TypeId} {vs : List Value} {w : World} {K : Value → World → Prop} {X : List PanicEntry → World → Prop} {s : Sem Next}
    (h : RUN op ty vs w K X) (hs : s.run PP w = ((semOf op ty vs).run PP w).andThen fun v w' => .ok (.value v) w') : resOK (s.run PP w) K X := by
  cases h with
  | ok v w' h k => rw [hs, h]; exact k
  | pan v w' h k => rw [hs, h]; exact k
theorem RUN_res' {op : Op} {ty : TypeId} {vs : List Value} {w : World} {K : Value → World → Prop} {X : List PanicEntry → World → Prop} {s : Sem Next} {u : Sem Unit}
    (h : RUN op ty vs w K X) (hs : s.run PP w = (u.run PP w).andThen fun _ w' => .ok .skip w') (hu : (semOf op ty vs).run PP w = (u.run PP w).andThen fun _ w' => .ok undef w') : resOK (s.run PP w) K X := by
  cases h with
  | ok v w' h k =>
    rw [hu] at h; rw [hs]
    cases hr : u.run PP w with
    | ok x w'' => rw [hr] at h; simp at h; obtain ⟨rfl, rfl⟩ := h; exact k
    | halt x w'' => rw [hr] at h; simp at h
  | pan v w' h k =>
    rw [hu] at h; rw [hs]
    cases hr : u.run PP w with
    | ok x w'' => rw [hr] at h; simp at h
    | halt x w'' => rw [hr] at h; simp at h; obtain ⟨rfl, rfl⟩ := h; exact k

theorem info_of {t : Nat} (h : inTau t = true) (hk : (tau t).k ≠ .other) : ∃ i d, PP.info? t = some i ∧ i.size = (tau t).size ∧ PP.underlying t = some d ∧ kOK (tau t).k d = true ∧
    (∀ z, (tau t).zero = some z → ∃ v, i.zero = some v ∧ v.cells.toList = z) := by
  have h0 := tau_ok h
  unfold teOK at h0
  split at h0
  · rename_i he; exact absurd he hk
  · split at h0
    · rename_i i hi
      simp only [Bool.and_eq_true, beq_iff_eq] at h0
      obtain ⟨⟨h1, h2⟩, h3⟩ := h0
      split at h3
      · rename_i d hd
        refine ⟨i, d, hi, h1, hd, h3, fun z hz => ?_⟩
        rw [hz] at h2
        simp only at h2
        split at h2
        · rename_i v hv
          simp only [Bool.and_eq_true] at h2
          exact ⟨v, hv, vsbeq_eq h2.1⟩
        · cases h2
      · cases h3
    · cases h0

theorem run_underlying' {t : Nat} {d : TypeDesc} (h : PP.underlying t = some d) (w : World) : (underlying t).run PP w = .ok d w := run_underlying h w
theorem run_sizeOf {t : Nat} {i : TypeInfo} (h : PP.info? t = some i) (w : World) : (sizeOf t).run PP w = .ok i.size w := by
  simp [sizeOf, typeInfo, h]

theorem art_run {op : BinOp} {k l : IntKind} {a b r : Int} (h : artV op k a b = some r) (hk : cmpOps op = 7 ∨ k = l) (t : TypeId) (w : World) :
    (binOp op t (.int k a) (.int l b)).run PP w = .ok (.int k r) w := by
  cases op <;> simp only [artV] at h <;> first
    | (cases h; done)
    | (rcases hk with hk | rfl
       · first | (cases hk; done) | (split at h
                                     · cases h
                                     · rename_i hb; simp only [Option.some.injEq] at h; subst h; simp [binOp, Op.shift, hb])
       · first
         | (simp only [Option.some.injEq] at h; subst h; simp [binOp, Op.intArith, Op.intBits]; done)
         | (split at h
            · cases h
            · rename_i hb; simp only [Option.some.injEq] at h; subst h; simp [binOp, Op.intDiv, Op.shift, hb]))


theorem dBin_res {op : BinOp} {a b : Value} {K : Value → World → Prop} {X : List PanicEntry → World → Prop} {R : Prop} {t : TypeId} {x y : Operand} {w : World} {s : Sem Next}
    (hs : s = do pure (.value (← (do eqGuard op t x y a b; binOp op t a b))))
    (h : dBin op a b (fun v => K v w) R) (hR : R → resOK (s.run PP w) K X) : resOK (s.run PP w) K X := by
  unfold dBin at h
  split at h
  · rename_i k x' l y'
    have hg : eqGuard op t x y (.int k x') (.int l y') = pure () := by cases op <;> rfl
    have key : ∀ v, (binOp op t (.int k x') (.int l y')).run PP w = .ok v w → K v w → resOK (s.run PP w) K X := fun v hv hk => by
      refine res_value (v := v) (w' := w) ?_ hk
      rw [hs, hg]; simp [hv]
    split at h
    · rename_i h7 _; cases h with | mk r hr hk => exact key _ (art_run hr (.inl (by cases op <;> simp_all [cmpOps])) t w) hk
    · rename_i h8 hb; have := ikn_inj hb; subst this
      cases h with | mk r hr hk => exact key _ (art_run hr (.inr rfl) t w) hk
    · rename_i h8 hb; have := ikn_inj hb; subst this
      obtain rfl : op = .eql := by cases op <;> simp_all [cmpOps]
      cases h <;> (rename_i hc hk; exact key _ (by simp [binOp, Op.intCmp, hc]) hk)
    · rename_i h8 hb; have := ikn_inj hb; subst this
      obtain rfl : op = .neq := by cases op <;> simp_all [cmpOps]
      cases h <;> (rename_i hc hk; exact key _ (by simp [binOp, Op.intCmp, hc]) hk)
    · rename_i h8 hb; have := ikn_inj hb; subst this
      obtain rfl : op = .lss := by cases op <;> simp_all [cmpOps]
      cases h <;> (rename_i hc hk; exact key _ (by simp [binOp, Op.intCmp]; omega) hk)
    · rename_i h8 hb; have := ikn_inj hb; subst this
      obtain rfl : op = .leq := by cases op <;> simp_all [cmpOps]
      cases h <;> (rename_i hc hk; exact key _ (by simp [binOp, Op.intCmp]; omega) hk)
    · rename_i h8 hb; have := ikn_inj hb; subst this
      obtain rfl : op = .gtr := by cases op <;> simp_all [cmpOps]
      cases h <;> (rename_i hc hk; exact key _ (by simp [binOp, Op.intCmp]; omega) hk)
    · rename_i h8 hb; have := ikn_inj hb; subst this
      obtain rfl : op = .geq := by cases op <;> simp_all [cmpOps]
      cases h <;> (rename_i hc hk; exact key _ (by simp [binOp, Op.intCmp]; omega) hk)
    · exact h.elim
  · exact hR h

theorem kOK_ptr {e : Nat} {d : TypeDesc} (h : kOK (.ptr e) d = true) : d = .pointer e := by
  cases d <;> simp [kOK] at h
  rw [h]
theorem kOK_slice {e s b : Nat} {d : TypeDesc} (h : kOK (.slice e s b) d = true) : d = .slice e ∧ ∃ j, PP.info? e = some j ∧ j.size = s ∧ j.bytes = b := by
  cases d <;> simp only [kOK, Bool.and_eq_true, beq_iff_eq] at h <;> try (cases h; done)
  obtain ⟨⟨⟨h1, h2⟩, h3⟩, h4⟩ := h
  subst h1
  obtain ⟨j, hj⟩ := Option.isSome_iff_exists.1 h2
  exact ⟨rfl, j, hj, by unfold szOf at h3; rw [hj] at h3; exact h3, by unfold byOf at h4; rw [hj] at h4; exact h4⟩
theorem kOK_arr {n e s : Nat} {d : TypeDesc} (h : kOK (.arr n e s) d = true) : d = .array n e ∧ ∃ j, PP.info? e = some j ∧ j.size = s := by
  cases d <;> simp only [kOK, Bool.and_eq_true, beq_iff_eq] at h <;> try (cases h; done)
  obtain ⟨⟨⟨h1, h2⟩, h3⟩, h4⟩ := h
  subst h1; subst h2
  obtain ⟨j, hj⟩ := Option.isSome_iff_exists.1 h3
  exact ⟨rfl, j, hj, by unfold szOf at h4; rw [hj] at h4; exact h4⟩
theorem kOK_map {a b : Nat} {d : TypeDesc} (h : kOK (.map a b) d = true) : d = .map a b := by
  cases d <;> simp [kOK] at h
  rw [h.1, h.2]
theorem kOK_bool {d : TypeDesc} (h : kOK .bool d = true) : d = .bool := by
  cases d <;> simp [kOK] at h
  rfl
theorem kOK_int {k : IntKind} {d : TypeDesc} (h : kOK (.int k) d = true) : d = .int k := by
  cases d <;> simp [kOK] at h
  rw [h]
theorem kOK_struct {fs : List (Nat × Nat × Nat)} {d : TypeDesc} (h : kOK (.struct fs) d = true) :
    ∃ gs : Array Field, d = .struct gs ∧ gs.toList.map (fun f => (f.offset, szOf f.type, f.type)) = fs ∧ ∀ f ∈ gs.toList, ∃ j, PP.info? f.type = some j := by
  cases d <;> simp only [kOK, Bool.and_eq_true, beq_iff_eq] at h <;> try (cases h; done)
  exact ⟨_, rfl, h.1, fun f hf => Option.isSome_iff_exists.1 (List.all_eq_true.1 h.2 f hf)⟩
theorem kdesc {t : Nat} {k : TK} (h : inTau t = true) (hk : (tau t).k = k) (hne : k ≠ .other) : ∃ d, PP.underlying t = some d ∧ kOK k d = true := by
  obtain ⟨i, d, hi, hs, hd, hok, hz⟩ := info_of h (by rw [hk]; exact hne)
  exact ⟨d, hd, hk ▸ hok⟩
theorem kptr {t e : Nat} (h : inTau t = true) (hk : (tau t).k = .ptr e) : PP.underlying t = some (.pointer e) := by
  obtain ⟨d, hd, hok⟩ := kdesc h hk (by simp)
  rw [hd, kOK_ptr hok]
theorem kmap {t a b : Nat} (h : inTau t = true) (hk : (tau t).k = .map a b) : PP.underlying t = some (.map a b) := by
  obtain ⟨d, hd, hok⟩ := kdesc h hk (by simp)
  rw [hd, kOK_map hok]
theorem kint {t : Nat} {k : IntKind} (h : inTau t = true) (hk : (tau t).k = .int k) : PP.underlying t = some (.int k) := by
  obtain ⟨d, hd, hok⟩ := kdesc h hk (by simp)
  rw [hd, kOK_int hok]
theorem kbool {t : Nat} (h : inTau t = true) (hk : (tau t).k = .bool) : PP.underlying t = some .bool := by
  obtain ⟨d, hd, hok⟩ := kdesc h hk (by simp)
  rw [hd, kOK_bool hok]
theorem kslice {t e s b : Nat} (h : inTau t = true) (hk : (tau t).k = .slice e s b) : PP.underlying t = some (.slice e) ∧ ∃ j, PP.info? e = some j ∧ j.size = s ∧ j.bytes = b := by
  obtain ⟨d, hd, hok⟩ := kdesc h hk (by simp)
  obtain ⟨h1, h2⟩ := kOK_slice hok
  exact ⟨by rw [hd, h1], h2⟩
theorem karr {t n e s : Nat} (h : inTau t = true) (hk : (tau t).k = .arr n e s) : PP.underlying t = some (.array n e) ∧ ∃ j, PP.info? e = some j ∧ j.size = s := by
  obtain ⟨d, hd, hok⟩ := kdesc h hk (by simp)
  obtain ⟨h1, h2⟩ := kOK_arr hok
  exact ⟨by rw [hd, h1], h2⟩
theorem kstruct {t : Nat} {fs : List (Nat × Nat × Nat)} (h : inTau t = true) (hk : (tau t).k = .struct fs) :
    ∃ gs : Array Field, PP.underlying t = some (.struct gs) ∧ gs.toList.map (fun f => (f.offset, szOf f.type, f.type)) = fs ∧ ∀ f ∈ gs.toList, ∃ j, PP.info? f.type = some j := by
  obtain ⟨d, hd, hok⟩ := kdesc h hk (by simp)
  obtain ⟨gs, h1, h2⟩ := kOK_struct hok
  exact ⟨gs, by rw [hd, h1], h2⟩

theorem nth_eq {α : Type} : ∀ (l : List α) (i : Nat), nth l i = l[i]?
  | [], i => by simp [nth_nil]
  | a :: r, 0 => by simp [nth_zero]
  | a :: r, i + 1 => by simp [nth_succ, nth_eq r i]

theorem kfield {t : Nat} {fs : List (Nat × Nat × Nat)} {f off sz u : Nat} (h : inTau t = true) (hk : (tau t).k = .struct fs) (hf : nth fs f = some (off, sz, u)) :
    ∃ gs : Array Field, PP.underlying t = some (.struct gs) ∧ ∃ g, gs[f]? = some g ∧ g.offset = off ∧ g.type = u ∧ ∃ j, PP.info? u = some j ∧ j.size = sz := by
  obtain ⟨gs, hu, hm, hall⟩ := kstruct h hk
  subst hm
  rw [nth_eq, List.getElem?_map] at hf
  cases hg : gs.toList[f]? with
  | none => rw [hg] at hf; cases hf
  | some g =>
    rw [hg] at hf
    simp only [Option.map_some, Option.some.injEq, Prod.mk.injEq] at hf
    obtain ⟨h1, h2, h3⟩ := hf
    obtain ⟨j, hj⟩ := hall g (List.mem_of_getElem? hg)
    refine ⟨gs, hu, g, by simpa using hg, h1, h3, j, by rw [← h3]; exact hj, by unfold szOf at h2; rw [← h3, ] at *; rw [hj] at h2; exact h2⟩

theorem eq_slice_nn' (n : Nat) {t e : Nat} (hu : PP.underlying t = some (.slice e)) (a b c d : Nat) (w : World) : (Op.equalIn (n + 1) t (.slice none a b) (.slice none c d)).run PP w = .ok true w := by
  simp only [Op.equalIn, Sem.run_bind, run_underlying' hu, Result.andThen_ok]; rfl
theorem eq_slice_nn {t e : Nat} (hu : PP.underlying t = some (.slice e)) (a b c d : Nat) (w : World) : (Op.equal t (.slice none a b) (.slice none c d)).run PP w = .ok true w := eq_slice_nn' 9999 hu a b c d w
theorem eq_slice_sn' (n : Nat) {t e : Nat} (hu : PP.underlying t = some (.slice e)) (p : Addr) (a b c d : Nat) (w : World) : (Op.equalIn (n + 1) t (.slice (some p) a b) (.slice none c d)).run PP w = .ok false w := by
  simp only [Op.equalIn, Sem.run_bind, run_underlying' hu, Result.andThen_ok]; rfl
theorem eq_slice_sn {t e : Nat} (hu : PP.underlying t = some (.slice e)) (p : Addr) (a b c d : Nat) (w : World) : (Op.equal t (.slice (some p) a b) (.slice none c d)).run PP w = .ok false w := eq_slice_sn' 9999 hu p a b c d w
theorem eq_ptr_sn' (n : Nat) {t e : Nat} (hu : PP.underlying t = some (.pointer e)) (p : Addr) (w : World) : (Op.equalIn (n + 1) t (.pointer (some p)) (.pointer none)).run PP w = .ok false w := by
  simp only [Op.equalIn, Sem.run_bind, run_underlying' hu, Result.andThen_ok]; rfl
theorem eq_ptr_sn {t e : Nat} (hu : PP.underlying t = some (.pointer e)) (p : Addr) (w : World) : (Op.equal t (.pointer (some p)) (.pointer none)).run PP w = .ok false w := eq_ptr_sn' 9999 hu p w
theorem eq_ptr_ns' (n : Nat) {t e : Nat} (hu : PP.underlying t = some (.pointer e)) (p : Addr) (w : World) : (Op.equalIn (n + 1) t (.pointer none) (.pointer (some p))).run PP w = .ok false w := by
  simp only [Op.equalIn, Sem.run_bind, run_underlying' hu, Result.andThen_ok]; rfl
theorem eq_ptr_ns {t e : Nat} (hu : PP.underlying t = some (.pointer e)) (p : Addr) (w : World) : (Op.equal t (.pointer none) (.pointer (some p))).run PP w = .ok false w := eq_ptr_ns' 9999 hu p w
theorem eq_ptr_nn' (n : Nat) {t e : Nat} (hu : PP.underlying t = some (.pointer e)) (w : World) : (Op.equalIn (n + 1) t (.pointer none) (.pointer none)).run PP w = .ok true w := by
  simp only [Op.equalIn, Sem.run_bind, run_underlying' hu, Result.andThen_ok]; rfl
theorem eq_ptr_nn {t e : Nat} (hu : PP.underlying t = some (.pointer e)) (w : World) : (Op.equal t (.pointer none) (.pointer none)).run PP w = .ok true w := eq_ptr_nn' 9999 hu  w
theorem eq_map_sn' (n : Nat) {t a b : Nat} (hu : PP.underlying t = some (.map a b)) (p : Nat) (w : World) : (Op.equalIn (n + 1) t (.map (some p)) (.map none)).run PP w = .ok false w := by
  simp only [Op.equalIn, Sem.run_bind, run_underlying' hu, Result.andThen_ok]; rfl
theorem eq_map_sn {t a b : Nat} (hu : PP.underlying t = some (.map a b)) (p : Nat) (w : World) : (Op.equal t (.map (some p)) (.map none)).run PP w = .ok false w := eq_map_sn' 9999 hu p w
theorem eq_bool' (n : Nat) {t : Nat} (hu : PP.underlying t = some .bool) (p q : Bool) (w : World) : (Op.equalIn (n + 1) t (.bool p) (.bool q)).run PP w = .ok (p == q) w := by
  simp only [Op.equalIn, Sem.run_bind, run_underlying' hu, Result.andThen_ok]; rfl
theorem eq_bool {t : Nat} (hu : PP.underlying t = some .bool) (p q : Bool) (w : World) : (Op.equal t (.bool p) (.bool q)).run PP w = .ok (p == q) w := eq_bool' 9999 hu p q w

theorem dEq_res {t : Nat} {a b : Value} {K : Bool → Prop} {R C : Prop} (h : dEq t a b K R)
    (hK : ∀ c, (∀ w, (Op.equal t a b).run PP w = .ok c w) → (∀ op x y, eqGuard op t x y a b = pure ()) → (binOp .eql t a b = do pure (.bool (← Op.equal t a b))) → (binOp .neq t a b = do pure (.bool (!(← Op.equal t a b)))) → K c → C) (hR : R → C) : C := by
  unfold dEq at h
  split at h
  · rename_i h1 h2; exact hK _ (eq_ptr_sn (kptr h1 h2) _) (fun op x y => by cases op <;> rfl) rfl rfl h
  · rename_i h1 h2; exact hK _ (eq_ptr_ns (kptr h1 h2) _) (fun op x y => by cases op <;> rfl) rfl rfl h
  · rename_i h1 h2; exact hK _ (eq_ptr_nn (kptr h1 h2)) (fun op x y => by cases op <;> rfl) rfl rfl h
  · rename_i h1 h2; exact hK _ (eq_slice_nn (kslice h1 h2).1 _ _ _ _) (fun op x y => by cases op <;> rfl) rfl rfl h
  · rename_i h1 h2; exact hK _ (eq_slice_sn (kslice h1 h2).1 _ _ _ _ _) (fun op x y => by cases op <;> rfl) rfl rfl h
  · rename_i h1 h2; exact hK _ (eq_map_sn (kmap h1 h2) _) (fun op x y => by cases op <;> rfl) rfl rfl h
  · rename_i h1 h2; exact hK _ (eq_bool (kbool h1 h2) _ _) (fun op x y => by cases op <;> rfl) rfl rfl h
  · exact hR h


theorem res_pure {K : Value → World → Prop} {X : List PanicEntry → World → Prop} {v : Value} {w : World} (k : K v w) : resOK ((pure (Next.value v) : Sem Next).run PP w) K X := k

theorem field_run {s f off sz u b o : Nat} {fs : List (Nat × Nat × Nat)} (h : inTau s = true) (hk : (tau s).k = .struct fs) (hf : nth fs f = some (off, sz, u)) (hz : Nat.beq sz 0 = false) (w : World) :
    (Instr.fieldAt s (.pointer (some ⟨b, o, none⟩)) f).run PP w = .ok (.pointer (some ⟨b, o + off, none⟩)) w := by
  obtain ⟨gs, hu, g, hg, ho, ht, j, hj, hs⟩ := kfield h hk hf
  have hz' : j.size ≠ 0 := by rw [hs]; exact Nat.ne_of_beq_eq_false hz
  subst ho; subst ht
  unfold Instr.fieldAt
  simp only [Sem.run_bind, run_underlying' hu, Result.andThen_ok, hg, Instr.sureAddr, Sem.run_pure, fieldPlace, run_sizeOf hj, if_neg hz']
  simp only [Addr.add]
  by_cases h0 : g.offset = 0
  · simp [h0]
  · simp [h0]

theorem index_run_slice {t e esz eb b o n c o' : Nat} {k : IntKind} {i : Int} (h : inTau t = true) (hk : (tau t).k = .slice e esz eb) (hi : 0 ≤ i ∧ i < n ∧ o' = o + i.toNat * esz) (w : World) :
    (Instr.indexAt t (.slice (some ⟨b, o, none⟩) n c) (.int k i)).run PP w = .ok (.pointer (some ⟨b, o', none⟩)) w := by
  obtain ⟨hu, j, hj, hs, _⟩ := kslice h hk
  obtain ⟨h1, h2, h3⟩ := hi
  unfold Instr.indexAt
  simp only [Sem.run_bind, asIntOf, Sem.run_pure, Result.andThen_ok, run_underlying' hu, run_sizeOf hj, h1, h2, and_self, if_true, hs]
  subst h3
  simp only [Addr.add]
  by_cases h0 : i.toNat * esz = 0
  · simp [h0]
  · simp [h0]
theorem index_run_arr {t e esz b o n o' : Nat} {k : IntKind} {i : Int} (h : inTau t = true) (hk : (tau t).k = .arr n e esz) (hi : 0 ≤ i ∧ i < n ∧ o' = o + i.toNat * esz) (w : World) :
    (Instr.indexAt t (.pointer (some ⟨b, o, none⟩)) (.int k i)).run PP w = .ok (.pointer (some ⟨b, o', none⟩)) w := by
  obtain ⟨hu, j, hj, hs⟩ := karr h hk
  obtain ⟨h1, h2, h3⟩ := hi
  unfold Instr.indexAt
  simp only [Sem.run_bind, asIntOf, Sem.run_pure, Result.andThen_ok, run_underlying' hu, run_sizeOf hj, h1, h2, and_self, if_true, hs, Instr.sureAddr]
  subst h3
  simp only [Addr.add]
  by_cases h0 : i.toNat * esz = 0
  · simp [h0]
  · simp [h0]

theorem callee_run {f : Nat} {args : Array Value} (h : okCallee f = true) (w : World) : (callFunc f args).run PP w = .ok (.enter f args) w := by
  unfold okCallee at h
  split at h
  · rename_i fn hf
    simp only [Bool.and_eq_true, Bool.not_eq_true'] at h
    obtain ⟨h1, h2⟩ := h
    have h3 : fn.body.isNone = false := by cases hb : fn.body <;> simp_all
    unfold callFunc
    simp only [Sem.run_bind, run_program, Result.andThen_ok, hf, h1, h3]
    rfl
  · cases h


theorem v_run (s : Sem Value) (w : World) : ((do pure (Next.value (← s))) : Sem Next).run PP w = (s.run PP w).andThen fun v w' => .ok (.value v) w' := by simp
theorem u_run (s : Sem Unit) (w : World) : ((do s; pure Next.skip) : Sem Next).run PP w = (s.run PP w).andThen fun _ w' => .ok .skip w' := by simp
theorem uu_run (s : Sem Unit) (w : World) : ((do s; pure undef) : Sem Value).run PP w = (s.run PP w).andThen fun _ w' => .ok undef w' := by simp

theorem cellsOf_eq (v : Value) : cellsOf v = v.cells.toList := by cases v <;> rfl
theorem setAt_eq : ∀ (cs : List Value) (off : Nat) (vs : List Value) (j : Nat), off + vs.length ≤ cs.length → (setAt cs off vs)[j]? = if off ≤ j ∧ j < off + vs.length then vs[j - off]? else cs[j]?
  | [], off, vs, j, h => by
    have : vs = [] := by cases vs with | nil => rfl | cons a l => simp at h
    subst this; simp [setAt]
  | x :: r, 0, [], j, h => by simp [setAt]
  | x :: r, 0, v :: vs, j, h => by
    simp only [setAt]
    cases j with
    | zero => simp
    | succ j =>
      simp only [List.getElem?_cons_succ]
      rw [setAt_eq r 0 vs j (by simp at h ⊢; omega)]
      simp only [Nat.zero_le, true_and, List.length_cons, Nat.zero_add, Nat.sub_zero]
      by_cases hj : j < vs.length
      · rw [if_pos hj, if_pos (by omega)]; simp
      · rw [if_neg hj, if_neg (by omega)]
  | x :: r, off + 1, vs, j, h => by
    simp only [setAt]
    cases j with
    | zero => simp
    | succ j =>
      simp only [List.getElem?_cons_succ]
      rw [setAt_eq r off vs j (by simp at h ⊢; omega)]
      by_cases hj : off ≤ j ∧ j < off + vs.length
      · rw [if_pos hj, if_pos (by omega)]; congr 1; omega
      · rw [if_neg hj, if_neg (by omega)]
theorem setAt_length : ∀ (cs : List Value) (off : Nat) (vs : List Value), (setAt cs off vs).length = cs.length
  | [], _, _ => rfl
  | x :: r, 0, [] => rfl
  | x :: r, 0, v :: vs => by simp [setAt, setAt_length r 0 vs]
  | x :: r, off + 1, vs => by simp [setAt, setAt_length r off vs]
theorem foldl_set (vs : List Value) : ∀ (k : Nat) (cs : Array Value) (off j : Nat),
    ((vs.zipIdx k).foldl (fun cs (x : Value × Nat) => cs.setIfInBounds (off + x.2) x.1) cs)[j]? =
      if off + k ≤ j ∧ j < off + k + vs.length ∧ j < cs.size then vs[j - off - k]? else cs[j]? := by
  induction vs with
  | nil => intro k cs off j; simp; omega
  | cons v vs ih =>
    intro k cs off j
    simp only [List.zipIdx_cons, List.foldl_cons]
    rw [ih]
    simp only [Array.size_setIfInBounds, List.length_cons]
    by_cases h1 : off + (k + 1) ≤ j ∧ j < off + (k + 1) + vs.length ∧ j < cs.size
    · rw [if_pos h1, if_pos (by omega)]
      obtain ⟨m, hm⟩ : ∃ m, j - off - k = m + 1 := ⟨j - off - k - 1, by omega⟩
      rw [hm, List.getElem?_cons_succ]; congr 1; omega
    · rw [if_neg h1]
      by_cases h2 : j = off + k
      · subst h2
        by_cases h3 : off + k < cs.size
        · rw [if_pos (by omega), Array.getElem?_setIfInBounds_self_of_lt h3]
          simp
        · rw [if_neg (by omega), Array.getElem?_eq_none (by simp; omega), Array.getElem?_eq_none (by omega)]
      · rw [if_neg (by omega), Array.getElem?_setIfInBounds_ne (by omega)]
theorem foldl_setAt (cs : List Value) (off : Nat) (v : Value) (h : off + v.cells.size ≤ cs.length) :
    v.cells.zipIdx.foldl (fun cs (x : Value × Nat) => cs.setIfInBounds (off + x.2) x.1) cs.toArray = (setAt cs off v.cells.toList).toArray := by
  have e : v.cells.zipIdx.foldl (fun cs (x : Value × Nat) => cs.setIfInBounds (off + x.2) x.1) cs.toArray = (v.cells.toList.zipIdx 0).foldl (fun cs (x : Value × Nat) => cs.setIfInBounds (off + x.2) x.1) cs.toArray := by
    rw [← Array.foldl_toList]; simp
  rw [e]
  apply Array.ext_getElem?
  intro j
  rw [foldl_set, List.getElem?_toArray, List.getElem?_toArray, setAt_eq _ _ _ _ (by simpa using h)]
  simp only [Nat.add_zero, List.size_toArray, Nat.sub_zero]
  have hl : v.cells.toList.length = v.cells.size := by simp
  by_cases h1 : off ≤ j ∧ j < off + v.cells.toList.length
  · rw [if_pos h1, if_pos ⟨h1.1, h1.2, by omega⟩]
  · rw [if_neg h1, if_neg (by omega)]

theorem fill_eq {place : Nat → Option (Nat × Nat)} : ∀ (ps : List (Nat × Value)) (cs r : List Value), fillL place cs ps = some r → Instr.fill place cs.toArray ps = some r.toArray
  | [], cs, r, h => by simp only [fillL, Option.some.injEq] at h; subst h; rfl
  | (i, v) :: ps, cs, r, h => by
    simp only [fillL] at h
    cases hp : place i with
    | none => rw [hp] at h; cases h
    | some p =>
      obtain ⟨off, size⟩ := p
      rw [hp] at h
      simp only at h
      cases hb : (Nat.beq (cellsOf v).length size && Nat.ble (off + size) cs.length) with
      | false => rw [hb] at h; cases h
      | true =>
        rw [hb] at h
        simp only [Bool.and_eq_true] at hb
        have h1 := Nat.eq_of_beq_eq_true hb.1
        have h2 := Nat.le_of_ble_eq_true hb.2
        rw [cellsOf_eq] at h1
        have h3 : v.cells.size = size := by simpa using h1
        simp only [Instr.fill, hp]
        rw [if_neg (by simp only [List.size_toArray, Bool.or_eq_true, decide_eq_true_eq, not_or]; constructor <;> omega)]
        rw [foldl_setAt cs off v (by omega), ← cellsOf_eq]
        exact fill_eq ps _ r h


theorem noIface {t : Nat} {k : TK} (h : inTau t = true) (hk : (tau t).k = k) (h1 : k ≠ .iface) (h2 : k ≠ .other) : ∃ d, PP.underlying t = some d ∧ ∀ m, d ≠ .interface m := by
  obtain ⟨d, hd, hok⟩ := kdesc h hk h2
  refine ⟨d, hd, fun m hm => ?_⟩
  subst hm
  cases k <;> simp [kOK] at hok
  exact h1 rfl
theorem makeI_run {t : Nat} {k : TK} {v : Value} (h : inTau t = true) (hk : (tau t).k = k) (h1 : k ≠ .iface) (h2 : k ≠ .other) (w : World) : (Instr.makeInterface t v).run PP w = .ok (.iface t v) w := by
  obtain ⟨d, hd, hne⟩ := noIface h hk h1 h2
  unfold Instr.makeInterface
  simp only [Sem.run_bind, run_underlying' hd, Result.andThen_ok]
  cases d <;> first | rfl | exact absurd rfl (hne _)
theorem notAgg_run {u : Nat} (h : inTau u = true) (ha : (tau u).agg = false) (ho : (tau u).k ≠ .other) (w : World) : (isAgg u).run PP w = .ok false w := by
  obtain ⟨d, hd, hok⟩ := kdesc h rfl ho
  unfold isAgg
  simp only [Sem.run_bind, run_underlying' hd, Result.andThen_ok]
  unfold TE.agg at ha
  cases hk : (tau u).k <;> rw [hk] at ha hok <;> (try (cases ha; done)) <;> cases d <;> simp [kOK] at hok <;> rfl
theorem isAgg_run {u : Nat} (h : inTau u = true) (ha : (tau u).agg = true) (w : World) : (isAgg u).run PP w = .ok true w := by
  have ho : (tau u).k ≠ .other := by intro h; simp [TE.agg, h] at ha
  obtain ⟨d, hd, hok⟩ := kdesc h rfl ho
  unfold isAgg
  simp only [Sem.run_bind, run_underlying' hd, Result.andThen_ok]
  unfold TE.agg at ha
  cases hk : (tau u).k <;> rw [hk] at ha hok <;> (try (cases ha; done)) <;> cases d <;> simp [kOK] at hok <;> rfl
theorem fieldV_run {t f off sz u : Nat} {fs : List (Nat × Nat × Nat)} {cs : Array Value} {v : Value} (h : inTau t = true) (hk : (tau t).k = .struct fs) (hf : nth fs f = some (off, sz, u))
    (hu : inTau u = true) (ha : (tau u).agg = false) (ho : (tau u).k ≠ .other) (hv : nth cs.toList off = some v) (w : World) : (Instr.field t (.agg cs) f).run PP w = .ok v w := by
  obtain ⟨gs, hun, g, hg, h1, h2, _⟩ := kfield h hk hf
  subst h1; subst h2
  unfold Instr.field
  simp only [Sem.run_bind, run_underlying' hun, Result.andThen_ok, hg, asAgg, Sem.run_pure, part, notAgg_run hu ha ho]
  rw [nth_eq] at hv
  have : cs[g.offset]? = some v := by simpa using hv
  simp [this]
theorem zero_run {t : Nat} {z : List Value} (h : inTau t = true) (ho : (tau t).k ≠ .other) (hz : (tau t).zero = some z) (w : World) : ∃ v, (zeroValue t).run PP w = .ok v w ∧ v.cells.toList = z := by
  obtain ⟨i, d, hi, hs, hd, hok, hzz⟩ := info_of h ho
  obtain ⟨v, hv, hc⟩ := hzz z hz
  refine ⟨v, ?_, hc⟩
  unfold zeroValue
  simp only [Sem.run_bind, typeInfo, run_program, Result.andThen_ok, hi, Sem.run_pure, hv]
theorem build_run {t : Nat} {fs : List (Nat × Nat × Nat)} {z r : List Value} {ps : Array (Nat × Value)} (h : inTau t = true) (hk : (tau t).k = .struct fs) (hz : (tau t).zero = some z)
    (hf : fillL (plc fs) z ps.toList = some r) (w : World) : (Instr.build t ps).run PP w = .ok (.agg r.toArray) w := by
  obtain ⟨v, hv, hc⟩ := zero_run h (by rw [hk]; simp) hz w
  obtain ⟨gs, hu, hm, hall⟩ := kstruct h hk
  have hp : ∀ w, (gs.mapM fun f => do pure (f.offset, ← sizeOf f.type) : Sem (Array (Nat × Nat))).run PP w = .ok (gs.map fun f => (f.offset, szOf f.type)) w := by
    intro w
    have key : ∀ (l : List Field), (∀ f ∈ l, ∃ j, PP.info? f.type = some j) → (l.mapM fun f => do pure (f.offset, ← sizeOf f.type) : Sem (List (Nat × Nat))).run PP w = .ok (l.map fun f => (f.offset, szOf f.type)) w := by
      intro l
      induction l with
      | nil => intro _; simp
      | cons f l ih =>
        intro hl
        obtain ⟨j, hj⟩ := hl f (by simp)
        have hsz : szOf f.type = j.size := by unfold szOf; rw [hj]
        simp only [List.mapM_cons, Sem.run_bind, run_sizeOf hj, Result.andThen_ok, Sem.run_pure, ih (fun f' hf' => hl f' (by simp [hf'])), List.map_cons, hsz]
    have := key gs.toList hall
    rw [← Array.toArray_toList (xs := gs)]
    rw [List.mapM_toArray]
    simp only [Sem.run_map, this, Result.andThen_ok, List.map_toArray]
  unfold Instr.build
  simp only [Sem.run_bind, hv, Result.andThen_ok, run_underlying' hu, hp]
  have e1 : (fun i => (gs.map fun f => (f.offset, szOf f.type))[i]?) = plc fs := by
    funext i
    subst hm
    unfold plc
    rw [nth_eq, List.getElem?_map, Array.getElem?_map, ← Array.getElem?_toList]
    cases gs.toList[i]? <;> rfl
  rw [e1]
  have e2 : v.cells = z.toArray := by rw [← hc]
  rw [e2, fill_eq _ _ _ hf]
  rfl

theorem evp_snd (ρ : Fr) (l : List (Nat × Operand)) : (ρ.evp l).map (·.2) = ρ.evs (l.map (·.2)) := by
  rw [evp_map, evs_map]; simp
theorem zip_evs (ρ : Fr) (ps : Array (Nat × Operand)) : ((ps.toList.map (·.1)).zip (ρ.evs (ps.toList.map (·.2)))).toArray = ps.map fun (i, x) => (i, ρ.ev x) := by
  rw [evs_map]
  apply Array.ext'
  simp only [Array.toList_map]
  induction ps.toList with
  | nil => rfl
  | cons p l ih => simp only [List.map_cons, List.zip_cons_cons]; rw [ih]
theorem evp_arr (ρ : Fr) (ps : Array (Nat × Operand)) : (ρ.evp ps.toList) = (ps.map fun (i, x) => (i, ρ.ev x)).toList := by
  rw [evp_map, Array.toList_map]
theorem evs_arr (ρ : Fr) (xs : Array Operand) : (ρ.evs xs.toList).toArray = xs.map ρ.ev := by
  rw [evs_map]; apply Array.ext'; simp


theorem dOpU_res (o : Oper) (ρ : Fr) (w : World) (K : Value → World → Prop) (X : List PanicEntry → World → Prop) (h : dOpU o.op o.type ρ w K X) :
    resOK ((execOp ρ.ev o).run PP w) K X := by
  obtain ⟨dst, op, ty, pos, after, guard⟩ := o
  simp only at h
  cases op with
  | move x => exact h
  | assign x => exact h
  | pick c a b =>
    simp only [dOpU] at h
    show resOK ((do pure (Next.value (if ← asBool (ρ.ev c) then ρ.ev a else ρ.ev b)) : Sem Next).run PP w) K X
    split at h
    · rename_i hc; rw [hc]; exact h
    · rename_i hc; rw [hc]; exact h
    · exact h.elim
  | nilCheck x =>
    simp only [dOpU] at h
    split at h
    · rename_i a hx; simp only [execOp, hx]; exact h
    · rename_i f a b hx; simp only [execOp, hx]; exact h
    · exact h.elim
  | fieldAddr s x f =>
    simp only [dOpU] at h
    split at h
    · rename_i fs b o h1 h2 h3
      split at h
      · rename_i off sz u hf
        split at h
        · exact h.elim
        · rename_i hz
          refine res_value (v := .pointer (some ⟨b, o + off, none⟩)) (w' := w) ?_ h
          show ((do pure (Next.value (← Instr.fieldAt s (ρ.ev x) f))) : Sem Next).run PP w = _
          rw [v_run, h3, field_run h1 h2 hf hz]; rfl
      · exact h.elim
    · exact h.elim
  | indexAddr t x i =>
    simp only [dOpU] at h
    split at h
    · rename_i e esz eb b o n c k i' h1 h2 h3 h4
      cases h with | mk o' hb hk =>
      refine res_value (v := .pointer (some ⟨b, o', none⟩)) (w' := w) ?_ hk
      show ((do pure (Next.value (← Instr.indexAt t (ρ.ev x) (ρ.ev i)))) : Sem Next).run PP w = _
      rw [v_run, h3, h4, index_run_slice h1 h2 hb]; rfl
    · rename_i n e esz b o k i' h1 h2 h3 h4
      cases h with | mk o' hb hk =>
      refine res_value (v := .pointer (some ⟨b, o', none⟩)) (w' := w) ?_ hk
      show ((do pure (Next.value (← Instr.indexAt t (ρ.ev x) (ρ.ev i)))) : Sem Next).run PP w = _
      rw [v_run, h3, h4, index_run_arr h1 h2 hb]; rfl
    · exact RUN_res h (v_run _ _)
  | binOp op t x y yt =>
    simp only [dOpU] at h
    refine dBin_res (t := t) (x := x) (y := y) rfl h fun h => ?_
    have hR : RUN (.binOp op t x y yt) ty [ρ.ev x, ρ.ev y] w K X → resOK ((execOp ρ.ev { dst := dst, op := .binOp op t x y yt, type := ty, pos := pos, after := after, guard := guard }).run PP w) K X := fun h => RUN_res h (v_run _ _)
    split at h
    · refine dEq_res h (fun c hc hg hb _ hk => ?_) hR
      refine res_value (v := .bool c) (w' := w) ?_ hk
      show ((do pure (Next.value (← (do eqGuard .eql t x y (ρ.ev x) (ρ.ev y); Go.binOp .eql t (ρ.ev x) (ρ.ev y))))) : Sem Next).run PP w = _
      rw [v_run, hg, hb]
      simp only [Sem.run_bind, Sem.run_pure, Result.andThen_ok, hc]
    · refine dEq_res h (fun c hc hg _ hb hk => ?_) hR
      refine res_value (v := .bool !c) (w' := w) ?_ hk
      show ((do pure (Next.value (← (do eqGuard .neq t x y (ρ.ev x) (ρ.ev y); Go.binOp .neq t (ρ.ev x) (ρ.ev y))))) : Sem Next).run PP w = _
      rw [v_run, hg, hb]
      simp only [Sem.run_bind, Sem.run_pure, Result.andThen_ok, hc]
    · exact hR h
  | unOp op t x =>
    cases op with
    | not =>
      simp only [dOpU] at h
      split at h
      · rename_i b hx
        refine res_value (v := .bool !b) (w' := w) ?_ h
        show ((do pure (Next.value (← Op.unary .not (ρ.ev x)))) : Sem Next).run PP w = _
        rw [hx]; rfl
      · exact h.elim
    | _ => exact RUN_res h (v_run _ _)
  | convert s d x =>
    simp only [dOpU] at h
    split at h
    · rename_i k k' k'' n h1 h2 h3 h4 h5
      cases h with | mk r hr hk =>
      refine res_value (v := .int k r) (w' := w) ?_ hk
      show ((do pure (Next.value (← Go.convert s d (ρ.ev x)))) : Sem Next).run PP w = _
      rw [v_run, h5]
      unfold Go.convert
      simp only [Sem.run_bind, run_underlying' (kint h1 h4), run_underlying' (kint h2 h3), Result.andThen_ok, Conv.intToInt, Sem.run_pure, hr]
    · exact RUN_res h (v_run _ _)
  | makeInterface t x =>
    simp only [dOpU] at h
    split at h
    · exact h.elim
    · exact h.elim
    · rename_i h1 h3 h4
      refine res_value (v := .iface t (ρ.ev x)) (w' := w) ?_ h
      show ((do pure (Next.value (← Instr.makeInterface t (ρ.ev x)))) : Sem Next).run PP w = _
      rw [v_run, makeI_run h1 rfl h3 h4]; rfl
    · exact h.elim
  | makeFunc fn a c =>
    simp only [dOpU, evs_arr] at h
    exact h
  | build t ps =>
    simp only [dOpU] at h
    split at h
    · rename_i fs z h1 h2 h3
      split at h
      · rename_i cs hf
        refine res_value (v := .agg cs.toArray) (w' := w) ?_ h
        show ((do pure (Next.value (← Instr.build t (ps.map fun (i, x) => (i, ρ.ev x))))) : Sem Next).run PP w = _
        rw [v_run, build_run h1 h2 h3 (by rw [← evp_arr]; exact hf)]; rfl
      · exact h.elim
    · rw [evp_snd] at h
      refine RUN_res h ?_
      show ((do pure (Next.value (← Instr.build t (ps.map fun (i, x) => (i, ρ.ev x))))) : Sem Next).run PP w = _
      rw [v_run, ← zip_evs]; rfl
  | field t x f =>
    simp only [dOpU] at h
    split at h
    · rename_i fs cs h1 h2 h3
      split at h
      · rename_i off sz u hf
        split at h
        · rename_i v h4 h5 h6
          split at h
          · exact h.elim
          · rename_i h7
            refine res_value (v := v) (w' := w) ?_ h
            show ((do pure (Next.value (← Instr.field t (ρ.ev x) f))) : Sem Next).run PP w = _
            rw [v_run, h3, fieldV_run h1 h2 hf h4 h5 (fun hh => h7 hh) h6]; rfl
        · exact h.elim
      · exact h.elim
    · exact h.elim
  | extract x i =>
    simp only [dOpU] at h
    split at h
    · rename_i vs hx
      split at h
      · rename_i v hv
        refine res_value (v := v) (w' := w) ?_ h
        show ((do pure (Next.value (← Instr.extract (ρ.ev x) i))) : Sem Next).run PP w = _
        rw [v_run, hx]
        rw [nth_eq] at hv
        have : vs[i]? = some v := by simpa using hv
        simp [Instr.extract, this]
      · exact h.elim
    · exact h.elim
  | call c =>
    obtain ⟨callee, args, argTypes⟩ := c
    cases callee with
    | value f =>
      simp only [dOpU] at h
      split at h
      · rename_i g first cap hf
        have he : execOp ρ.ev { dst := dst, op := .call ⟨.value f, args, argTypes⟩, type := ty, pos := pos, after := after, guard := guard } = callFunc g (first ++ args.map ρ.ev ++ cap) := by
          simp only [execOp, resolve, hf, Deferred.ofValue, pure_bind, invoke]
        have e2 : (first.toList ++ ρ.evs args.toList ++ cap.toList).toArray = first ++ args.map ρ.ev ++ cap := by
          rw [evs_map]; apply Array.ext'; simp
        rw [he]
        cases h with
        | mk hc h =>
          rw [callee_run (okc_ok hc)]
          rw [e2] at h
          exact h
        | ext v w' h k =>
          rw [e2] at h
          exact res_value h k
      · exact h.elim
    | invoke r name =>
      simp only [dOpU] at h
      split at h
      · rename_i t v hr
        cases h with | mk f rv hm h =>
        have he : execOp ρ.ev { dst := dst, op := .call ⟨.invoke r name, args, argTypes⟩, type := ty, pos := pos, after := after, guard := guard } = callMethod (.iface t v) name (args.map ρ.ev) := by
          have e0 : (#[Value.iface t v] ++ args.map ρ.ev)[0]? = some (.iface t v) := by rw [Array.getElem?_append_left (by simp)]; rfl
          have e1 : (#[Value.iface t v] ++ args.map ρ.ev).extract 1 (#[Value.iface t v] ++ args.map ρ.ev).size = args.map ρ.ev := by
            apply Array.ext'; simp
            rw [List.take_of_length_le (by simp)]
          simp only [execOp, resolve, pure_bind, invoke, hr, e0, e1]
        rw [he]
        unfold callMethod
        simp only [Sem.run_bind, run_program, Result.andThen_ok, hm]
        have e2 : (rv :: ρ.evs args.toList).toArray = #[rv] ++ args.map ρ.ev := by
          rw [evs_map]; apply Array.ext'; simp
        cases h with
        | mk hc h =>
          rw [callee_run (okc_ok hc)]
          rw [e2] at h
          exact h
        | ext v w' h k =>
          rw [e2] at h
          exact res_value h k
      · exact h.elim
    | builtin b =>
      have hb : ∀ (s : Array Value → Sem Value), execOp ρ.ev { dst := dst, op := .call ⟨.builtin b, args, argTypes⟩, type := ty, pos := pos, after := after, guard := guard } = (do pure (Next.value (← s (args.map ρ.ev)))) →
          (∀ vs, semOf (.call ⟨.builtin b, args, argTypes⟩) ty vs = s vs.toArray) →
          RUN (.call ⟨.builtin b, args, argTypes⟩) ty (ρ.evs args.toList) w K X → resOK ((execOp ρ.ev { dst := dst, op := .call ⟨.builtin b, args, argTypes⟩, type := ty, pos := pos, after := after, guard := guard }).run PP w) K X := by
        intro s h1 h2 h
        refine RUN_res h ?_
        rw [h1, v_run, h2, evs_arr]
      have hno : (∀ vs, semOf (.call ⟨.builtin b, args, argTypes⟩) ty vs = Go.stuck "semOf") → RUN (.call ⟨.builtin b, args, argTypes⟩) ty (ρ.evs args.toList) w K X → False := by
        intro h1 h
        cases h with
        | ok v w' h k => rw [h1] at h; cases h
        | pan v w' h k => rw [h1] at h; cases h
      cases b
      case len =>
        have hl : RUN (.call ⟨.builtin .len, args, argTypes⟩) ty (ρ.evs args.toList) w K X → resOK ((execOp ρ.ev { dst := dst, op := .call ⟨.builtin .len, args, argTypes⟩, type := ty, pos := pos, after := after, guard := guard }).run PP w) K X := hb (Builtin.len_ argTypes ty) rfl (fun _ => rfl)
        simp only [dOpU] at h
        split at h
        · rename_i b n c' t hv ht
          split at h
          · rename_i h1 h2
            obtain ⟨e, esz, eb, hk⟩ : ∃ e s b, (tau t).k = .slice e s b := by cases hk : (tau t).k <;> simp [isSl, hk] at h2; exact ⟨_, _, _, rfl⟩
            have hu := (kslice h1 hk).1
            cases h with | mk r hr h =>
            subst hr
            refine res_value (v := .int .i64 n) (w' := w) ?_ h
            show ((do pure (Next.value (← Builtin.len_ argTypes ty (args.map ρ.ev)))) : Sem Next).run PP w = _
            have e1 : args.map ρ.ev = #[.slice b n c'] := by rw [← evs_arr, hv]
            have e2 : argTypes = #[t] := by rw [← Array.toArray_toList (xs := argTypes), ht]
            rw [v_run, e1, e2]
            unfold Builtin.len_
            simp [run_underlying' hu, goInt]
          · exact hl (hv ▸ h)
        · exact hl h
      case append => exact hb (Builtin.append_ argTypes ty) rfl (fun _ => rfl) h
      case copy => exact hb (Builtin.copy_ argTypes ty) rfl (fun _ => rfl) h
      case cap => exact hb (Builtin.cap_ argTypes ty) rfl (fun _ => rfl) h
      case clear => exact hb (Builtin.clear_ argTypes ty) rfl (fun _ => rfl) h
      case delete => exact hb (Builtin.delete_ argTypes ty) rfl (fun _ => rfl) h
      case max => exact hb (Builtin.max_ argTypes ty) rfl (fun _ => rfl) h
      case min => exact hb (Builtin.min_ argTypes ty) rfl (fun _ => rfl) h
      all_goals exact (hno (fun _ => rfl) h).elim
  | panic x =>
    simp only [dOpU] at h
    split at h
    · rename_i t v hx
      show resOK ((do pure (Next.value (← Instr.panic (ρ.ev x))) : Sem Next).run PP w) K X
      rw [hx]; exact h
    · exact h.elim
  | alloc t => exact RUN_res h (v_run _ _)
  | box t x => exact RUN_res h (v_run _ _)
  | buildSlice t n ps =>
    have h : RUN (.buildSlice t n ps) ty (ρ.evs (ps.toList.map (·.2))) w K X := h
    refine RUN_res h ?_
    show ((do pure (Next.value (← Instr.buildSlice t n (ps.map fun (i, x) => (i, ρ.ev x))))) : Sem Next).run PP w = _
    rw [v_run, ← zip_evs]; rfl
  | load t x => exact RUN_res h (v_run _ _)
  | store t x y => exact RUN_res' h (u_run _ _) (uu_run _ _)
  | makeMap t r =>
    cases r with
    | none => exact RUN_res h (v_run _ _)
    | some r => exact h.elim
  | makeSlice t l c => exact RUN_res h (v_run _ _)
  | slice t x lo hi mx =>
    cases mx with
    | some _ => exact h.elim
    | none =>
      refine RUN_res h ?_
      show ((do pure (Next.value (← Instr.sliceAt t (ρ.ev x) (lo.map ρ.ev) (hi.map ρ.ev) none))) : Sem Next).run PP w = _
      rw [v_run]
      cases lo <;> cases hi <;> rfl
  | index t x i => exact RUN_res h (v_run _ _)
  | lookup t x i ok => exact RUN_res h (v_run _ _)
  | mapUpdate t m k x => exact RUN_res' h (u_run _ _) (uu_run _ _)
  | insert t m k x => exact RUN_res' h (u_run _ _) (uu_run _ _)
  | range t x => exact RUN_res h (v_run _ _)
  | next x s => exact RUN_res h (v_run _ _)
  | entry x => exact RUN_res h (v_run _ _)
  | typeAssert x xt t ok => exact RUN_res h (v_run _ _)
  | _ => exact h.elim
theorem dOp_res (o : Oper) (ρ : Fr) (w : World) (K : Value → World → Prop) (X : List PanicEntry → World → Prop) (h : dOp o.op o.type ρ w K X) :
    resOK ((execOp ρ.ev o).run PP w) K X := dOpU_res o ρ w K X ((dOp_eq ..) ▸ h)

theorem wantedF_eq {n : Nat} {all : Array Oper} {ρ : Fr} {a : Act} {b : Bool} {o : Oper} (hr : Rel n ρ a) (h : wantedF all.toList ρ o.guard = some b) :
    Region.wanted o (yielded all a.tmps) = b := by
  unfold wantedF at h
  unfold Region.wanted
  cases hg : o.guard with
  | none => rw [hg] at h; simp only [Option.some.injEq] at h; subst h; rfl
  | some p =>
    obtain ⟨j, b'⟩ := p
    rw [hg] at h
    simp only [nth_eq] at h
    cases hj : all[j]? with
    | none =>
      have : all.toList[j]? = none := by simpa using hj
      rw [this] at h; cases h
    | some oj =>
      have hj' : all.toList[j]? = some oj := by simpa using hj
      rw [hj'] at h
      simp only at h
      cases hd : oj.dst with
      | none => rw [hd] at h; cases h
      | some d =>
        rw [hd] at h
        simp only at h
        have hget := hr.get d
        simp only [yielded, hj, Option.bind_some, hd]
        rw [Array.getD_eq_getD_getElem?] at hget
        cases ht : a.tmps[d]? with
        | none =>
          rw [ht] at hget
          simp only [Option.getD_none] at hget
          rw [← hget] at h
          simp only [undef, Option.some.injEq] at h
          subst h; rfl
        | some v =>
          rw [ht] at hget
          simp only [Option.getD_some] at hget
          subst hget
          cases hv : ρ.get d <;> rw [hv] at h <;> simp at h
          · subst h; rfl
          · subst h; rfl

/-- The post of a denotation, as the model's own post. -/
def Lift (n : Nat) (K : Exit → Fr → List Deferred → World → Prop) : Exit → Act → World → Prop := fun e a w => ∃ ρ, Rel n ρ a ∧ K e ρ a.defers w

theorem dOps_sound {n : Nat} (all : Array Oper) (K : Exit → Fr → List Deferred → World → Prop) : ∀ (l : List Oper) (ρ : Fr) (ds : List Deferred) (w : World) (a : Act),
    dOps n all.toList l ρ ds w K → Rel n ρ a → a.defers = ds → wpList PP all (Lift n K) l a w
  | [], ρ, ds, w, a, h, hr, hd => ⟨ρ, hr, hd ▸ h⟩
  | o :: rest, ρ, ds, w, a, h, hr, hd => by
    simp only [dOps_cons, dOpsF, f2_eq] at h
    unfold wpList
    cases hw : wantedF all.toList ρ o.guard with
    | none => rw [hw] at h; exact h.elim
    | some b =>
      rw [hw] at h
      have hwd := wantedF_eq hr hw
      cases b with
      | false =>
        rw [if_neg (by rw [hwd]; simp)]
        exact dOps_sound all K rest _ ds w _ h (hr.put o.dst undef) (by cases hdst : o.dst <;> simp [Act.put, hd])
      | true =>
        rw [if_pos hwd]
        refine .inl ?_
        have hput : ∀ v, (a.put o.dst v).defers = ds := fun v => by cases hdst : o.dst <;> simp [Act.put, hd]
        simp only at h
        split at h
        · rename_i c hop
          split at h
          · rename_i f hc
            split at h
            · rename_i fn first cap hf
              unfold Oper.wp
              have he : execOp a.eval o = pure (Next.defer { target := .fn fn cap, args := (first.toList ++ ρ.evs c.args.toList).toArray }) := by
                obtain ⟨callee, args, argTypes⟩ := c
                obtain ⟨dst, op, ty, pos, after, guard⟩ := o
                simp only at hop hc
                subst hop; subst hc
                simp only [execOp, resolve, hr.ev, hf, Deferred.ofValue, pure_bind]
                have : (first.toList ++ ρ.evs args.toList).toArray = first ++ args.map ρ.ev := by rw [evs_map]; apply Array.ext'; simp
                rw [this]
              rw [he]
              show wpList PP all (Lift n K) rest _ w
              refine dOps_sound all K rest _ _ w _ h ?_ ?_
              · have := hr.put o.dst undef
                refine ⟨?_, ?_⟩
                · have h1 := this.size
                  cases hdst : o.dst <;> simp [Act.put, hdst] at h1 ⊢ <;> exact h1
                · intro t
                  have h1 := this.get t
                  cases hdst : o.dst <;> simp only [Act.put, hdst] at h1 ⊢ <;> exact h1
              · cases hdst : o.dst <;> simp [Act.put, hd]
            · exact h.elim
          · exact h.elim
        · unfold Oper.wp
          have h1 := dOp_res o ρ w _ _ h
          rw [← hr.ev] at h1
          refine upon_of_res h1 (fun v w' hk => ?_) (fun c w' hx => ?_)
          · exact dOps_sound all K rest _ ds w' _ hk (hr.put o.dst v) (hput v)
          · exact ⟨ρ, hr, by rw [hd]; exact hx⟩

theorem wp_loop_idx {Q : Exit → Act → World → Prop} {c : Code} (I : Nat → Act → World → Prop) {a : Act} {w : World} (m : Nat) (h₀ : I m a w)
    (round : ∀ m a w, I m a w → c.wp PP (Exit.then (fun a' w' => ∃ m', m' < m ∧ I m' a' w') Q) a w) : (Code.loop c).wp PP Q a w := by
  intro b k cs
  have key : ∀ n a w, I n a w → ∃ e a' w', Q e a' w' ∧ Arrives PP (lone (b.at a (.code c :: .inLoop c :: k)) cs w) b k cs e a' w' := by
    intro n
    induction n using Nat.strongRecOn with
    | _ n ih =>
      intro a w hI
      obtain ⟨e, a₁, w₁, hq, harr⟩ := round n a w hI b (.inLoop c :: k) cs
      cases e with
      | normal =>
        obtain ⟨m', hlt, hI₁⟩ := hq
        obtain ⟨e₂, a₂, w₂, hq₂, harr₂⟩ := ih m' hlt a₁ w₁ hI₁
        exact ⟨e₂, a₂, w₂, hq₂, .of_steps (Steps.trans harr (.one step_inLoop)) harr₂⟩
      | exit id => exact ⟨_, a₁, w₁, hq, .pass (x := .inLoop c) rfl (fun _ _ => .inl (by simp)) harr⟩
      | goto l => exact ⟨_, a₁, w₁, hq, .pass (x := .inLoop c) rfl (fun _ _ => .inl (by simp)) harr⟩
      | ret => exact ⟨_, a₁, w₁, hq, .pass (x := .inLoop c) rfl (fun _ _ => .inl (by simp)) harr⟩
      | panic ch => exact ⟨_, a₁, w₁, hq, .pass (x := .inLoop c) rfl (fun _ _ => .inl (by simp)) harr⟩
      | outgrown => exact ⟨_, a₁, w₁, hq, .pass (x := .inLoop c) rfl (fun _ _ => .inl (by simp)) harr⟩
  obtain ⟨e, a', w', hq, harr⟩ := key m a w h₀
  exact ⟨e, a', w', hq, .of_steps (.one step_loop) harr⟩

theorem den_sound {n : Nat} : ∀ (c : Code) (K : Exit → Fr → List Deferred → World → Prop) (ρ : Fr) (ds : List Deferred) (w : World) (a : Act),
    den n c ρ ds w K → Rel n ρ a → a.defers = ds → c.wp PP (Lift n K) a w := by
  intro c
  induction c with
  | skip => intro K ρ ds w a h hr hd; exact wp_skip ⟨ρ, hr, hd ▸ h⟩
  | ret => intro K ρ ds w a h hr hd; exact wp_ret ⟨ρ, hr, hd ▸ h⟩
  | exit i => intro K ρ ds w a h hr hd; exact wp_exit ⟨ρ, hr, hd ▸ h⟩
  | label l => intro K ρ ds w a h hr hd; exact wp_label ⟨ρ, hr, hd ▸ h⟩
  | seq x y ihx ihy =>
    intro K ρ ds w a h hr hd
    refine wp_seq ?_
    refine Code.wp_mono (fun e a' w' hq => ?_) (ihx _ ρ ds w a h hr hd)
    obtain ⟨ρ', hr', hk⟩ := hq
    cases e with
    | normal => exact ihy K ρ' _ w' a' hk hr' rfl
    | _ => exact ⟨ρ', hr', hk⟩
  | region id ops dr =>
    intro K ρ ds w a h hr hd
    cases dr with
    | false => exact wp_region_list (dOps_sound ops K ops.toList ρ ds w a h hr hd)
    | true =>
      cases h with | mk h => exact h a hr hd
  | cond c x y ihx ihy =>
    intro K ρ ds w a h hr hd
    replace h : dCond c (den n x) (den n y) ρ ds w K := h
    unfold dCond at h
    split at h
    · rename_i hc; exact wp_cond_true (by rw [hr.ev]; exact hc) (ihx K ρ ds w a h hr hd)
    · rename_i hc; exact wp_cond_false (by rw [hr.ev]; exact hc) (ihy K ρ ds w a h hr hd)
    · exact h.elim
  | block i b ih =>
    intro K ρ ds w a h hr hd
    refine wp_block ?_
    refine Code.wp_mono (fun e a' w' hq => ?_) (ih _ ρ ds w a h hr hd)
    obtain ⟨ρ', hr', hk⟩ := hq
    cases e with
    | exit j =>
      simp only at hk
      show (if j = i then Lift n K .normal a' w' else Lift n K (.exit j) a' w')
      cases hb : Nat.beq j i with
      | true =>
        rw [hb] at hk
        rw [if_pos (Nat.eq_of_beq_eq_true hb)]; exact ⟨ρ', hr', hk⟩
      | false =>
        rw [hb] at hk
        rw [if_neg (Nat.ne_of_beq_eq_false hb)]; exact ⟨ρ', hr', hk⟩
    | _ => exact ⟨ρ', hr', hk⟩
  | loop b ih =>
    intro K ρ ds w a h hr hd
    cases h with
    | mk I m h0 round =>
      obtain ⟨ρ0, he, h0⟩ := h0
      refine wp_loop_idx (fun m a w => ∃ ρ, Rel n ρ a ∧ I m ρ a.defers w) m ⟨ρ0, ⟨hr.size, fun t => (hr.get t).trans (he t)⟩, hd ▸ h0⟩ ?_
      rintro m a w ⟨ρ, hr, hI⟩
      refine Code.wp_mono (fun e a' w' hq => ?_) (ih _ ρ _ w a (round m ρ _ w hI) hr rfl)
      obtain ⟨ρ', hr', hk⟩ := hq
      cases e with
      | normal => cases hk with | mk m' hm ρ'' he hI' => exact ⟨m', hm, ρ'', ⟨hr'.size, fun t => (hr'.get t).trans (he t)⟩, hI'⟩
      | _ => exact ⟨ρ', hr', hk⟩
    | rounds m h =>
      refine wp_loop_rounds m ?_
      revert ρ ds w a
      induction m with
      | zero => intro ρ ds w a hr hd h; exact h.elim
      | succ m ihm =>
        intro ρ ds w a hr hd h
        refine Code.wp_mono (fun e a' w' hq => ?_) (ih _ ρ ds w a h hr hd)
        obtain ⟨ρ', hr', hk⟩ := hq
        cases e with
        | normal => exact ihm ρ' _ w' a' hr' rfl hk
        | _ => exact ⟨ρ', hr', hk⟩
  | _ => intro K ρ ds w a h; exact h.elim


/-- The results of a function. -/
def dRes (w : World) : List ResultVar → Fr → (List Value → Prop) → Prop
  | [], _, K => K []
  | .tmp t :: r, ρ, K => dRes w r ρ (fun vs => K (ρ.get t :: vs))
  | .cell a t :: r, ρ, K => RUN (.load t (.tmp a)) t [ρ.get a] w (fun v w' => w' = w ∧ dRes w r ρ (fun vs => K (v :: vs))) (fun _ _ => False)
def pack : List Value → Value
  | [v] => v
  | vs => .tuple vs.toArray

def resF (tmps : Array Value) : ResultVar → Sem Value
  | .tmp t => pure (tmps.getD t undef)
  | .cell x t => do loadVar t (← asAddr (tmps.getD x undef))
theorem results_eq (fn : Func) (tmps : Array Value) : results fn tmps = (do let vs ← fn.results.mapM (resF tmps); pure (if h : vs.size = 1 then vs[0] else .tuple vs)) := by
  unfold results
  congr 1
theorem dRes_run {n : Nat} {ρ : Fr} {a : Act} {w : World} (hr : Rel n ρ a) : ∀ (l : List ResultVar) (K : List Value → Prop), dRes w l ρ K →
    ∃ vs, (l.mapM (resF a.tmps) : Sem (List Value)).run PP w = .ok vs w ∧ K vs
  | [], K, h => ⟨[], by simp, h⟩
  | .tmp t :: r, K, h => by
    obtain ⟨vs, h1, h2⟩ := dRes_run hr r _ h
    refine ⟨ρ.get t :: vs, ?_, h2⟩
    simp only [List.mapM_cons, Sem.run_bind, resF, Sem.run_pure, Result.andThen_ok]
    rw [h1, hr.get t]; rfl
  | .cell x t :: r, K, h => by
    simp only [dRes] at h
    cases h with
    | ok v w' hv hk =>
      obtain ⟨rfl, hk⟩ := hk
      obtain ⟨vs, h1, h2⟩ := dRes_run hr r _ hk
      refine ⟨v :: vs, ?_, h2⟩
      have hv' : (Instr.loadAt t (ρ.get x)).run PP w' = .ok v w' := hv
      unfold Instr.loadAt at hv'
      have fin : ∀ p, ρ.get x = .pointer (some p) → (loadVar t p).run PP w' = .ok v w' → ((ResultVar.cell x t :: r).mapM (resF a.tmps) : Sem (List Value)).run PP w' = .ok (v :: vs) w' := by
        intro p hx hl
        have ha : (resF a.tmps (.cell x t)).run PP w' = .ok v w' := by
          simp only [resF, Sem.run_bind]
          rw [hr.get x, hx]
          simp only [asAddr, Sem.run_pure, Result.andThen_ok, hl]
        simp only [List.mapM_cons, Sem.run_bind, ha, h1, Sem.run_pure, Result.andThen_ok]
      cases hx : ρ.get x with
      | pointer p =>
        cases p with
        | some p =>
          rw [hx] at hv'
          simp only [Sem.run_bind, Instr.sureAddr, Sem.run_pure, Result.andThen_ok] at hv'
          exact fin p hx hv'
        | none => rw [hx] at hv'; simp only [Sem.run_bind, Instr.sureAddr] at hv'; cases hv'
      | _ => rw [hx] at hv'; simp only [Sem.run_bind, Instr.sureAddr] at hv'; cases hv'
    | pan v w' hv hk => exact hk.elim

theorem results_run {fn : Func} {tmps : Array Value} {vs : List Value} {w : World}
    (h : (fn.results.toList.mapM (resF tmps) : Sem (List Value)).run PP w = .ok vs w) :
    (results fn tmps).run PP w = .ok (pack vs) w := by
  rw [results_eq, ← Array.toArray_toList (xs := fn.results), List.mapM_toArray]
  simp only [Sem.run_bind, Sem.run_map, h, Result.andThen_ok, Sem.run_pure]
  congr 1
  match vs with
  | [] => rfl
  | [v] => rfl
  | a :: b :: r => simp [pack]

def undefs : Nat → Nat → Fr → Fr
  | 0, _, r => r
  | n + 1, i, r => undefs n (i + 1) (.cons i undef r)

/-- The frame with which a body begins. -/
def fr0 (args : List Value) : Fr := frOf args 0 (.base fun _ => undef)

theorem frOf_get : ∀ (l : List Value) (i : Nat) (r : Fr) (t : Nat), (frOf l i r).get t = if i ≤ t ∧ t < i + l.length then l.getD (t - i) undef else r.get t
  | [], i, r, t => by simp [frOf]; omega
  | v :: l, i, r, t => by
    simp only [frOf]
    rw [frOf_get l (i + 1)]
    simp only [List.length_cons]
    by_cases h : i + 1 ≤ t ∧ t < i + 1 + l.length
    · rw [if_pos h, if_pos (by omega)]
      obtain ⟨m, hm⟩ : ∃ m, t - i = m + 1 := ⟨t - i - 1, by omega⟩
      rw [hm, show t - (i + 1) = m by omega]; simp
    · rw [if_neg h]
      simp only [Fr.get_cons]
      by_cases h2 : i = t
      · subst h2
        have hb : Nat.beq i i = true := Nat.beq_refl i
        rw [if_pos (by omega)]; simp [hb]
      · have hb : Nat.beq i t = false := by
          cases hh : Nat.beq i t with
          | false => rfl
          | true => exact absurd (Nat.eq_of_beq_eq_true hh) h2
        simp only [hb]
        rw [if_neg (by omega)]

theorem rel0 (n : Nat) (args : List Value) (h : args.length ≤ n) : Rel n (fr0 args) { tmps := args.toArray ++ Array.replicate (n - args.toArray.size) undef, defers := [] } := by
  refine ⟨by simp; omega, fun t => ?_⟩
  unfold fr0
  rw [frOf_get]
  simp only [Nat.zero_le, true_and, Nat.zero_add, Nat.sub_zero, Fr.get_base]
  rw [Array.getD_eq_getD_getElem?]
  by_cases ht : t < args.length
  · rw [if_pos ht, Array.getElem?_append_left (by simpa using ht)]
    simp [List.getD]
  · rw [if_neg ht, Array.getElem?_append_right (by simp; omega)]
    rw [Array.getElem?_replicate]
    split <;> rfl

/-- What a body's end must come to. -/
def Fin (rs : List ResultVar) (R : Ending → World → Prop) (e : Exit) (ρ : Fr) (ds : List Deferred) (w : World) : Prop :=
  match e with
  | .normal => (match ds with | [] => dRes w rs ρ (fun vs => R (.returned (pack vs)) w) | _ => False)
  | .ret => (match ds with | [] => dRes w rs ρ (fun vs => R (.returned (pack vs)) w) | _ => False)
  | .panic c => (match ds with | [] => R (.panicked c) w | _ => False)
  | _ => False

theorem calls_den {f : FuncId} {fn : Func} {c : Code} {args : List Value} {w : World} {Post : Ending → World → Prop}
    (hf : PP.funcs[f]? = some fn) (hb : fn.body = some c) (hn : args.length ≤ fn.ntmps)
    (h : ∀ R : Ending → World → Prop, (∀ e w', Post e w' → R e w') → den fn.ntmps c (fr0 args) [] w (Fin fn.results.toList R)) : Calls PP f args.toArray w Post := by
  refine calls_of_wp hf hb ?_
  refine Code.wp_mono (fun e a' w' hq => ?_) (den_sound c _ _ [] w _ (h Post (fun _ _ h => h)) (rel0 fn.ntmps args hn) rfl)
  obtain ⟨ρ', hr', hk⟩ := hq
  cases hd : a'.defers with
  | cons d ds => rw [hd] at hk; cases e <;> exact hk.elim
  | nil =>
    rw [hd] at hk
    cases e with
    | normal =>
      obtain ⟨vs, h1, h2⟩ := dRes_run hr' _ _ hk
      exact ⟨hd, _, results_run h1, h2⟩
    | ret =>
      obtain ⟨vs, h1, h2⟩ := dRes_run hr' _ _ hk
      exact ⟨hd, _, results_run h1, h2⟩
    | panic ch => exact ⟨hd, hk⟩
    | _ => exact hk.elim

end Go.E
end
