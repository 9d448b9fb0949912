/- Maps whose keys are numbers. -/
import Derived.Maps.RangeRun
import Derived.Test.YtnbekdcepnfpaaaGreatDoorG09
import Derived.Test.YtnbekdcepnfpaaaGreatDoorG13
import Derived.Test.YtnbekdcepnfpaaaGreatDoorG05
set_option linter.unusedVariables false
set_option linter.unusedSimpArgs false
set_option maxRecDepth 10000
noncomputable section
namespace Go.E
open Go Go.Proofs

/-- An entry. -/
structure Me where
  k : Int
  v : Value
  born : Nat
def meE (m : Me) : MapEntry := { key := i64 m.k, val := m.v, born := m.born }
def mfind (k : Int) : List Me → Nat → Option (Nat × Value)
  | [], _ => none
  | m :: r, i => if k = m.k then some (i, m.v) else mfind k r (i + 1)
theorem findNow_eq (k : Int) : ∀ (ms : List Me) (i : Nat), Instr.findNow (.int .i64) (i64 k) (ms.map meE) i = some (mfind k ms i)
  | [], _ => rfl
  | m :: r, i => by
    have e : Instr.sameNow (.int .i64) (i64 k) (meE m).key = some (k == m.k) := by simp [Instr.sameNow, meE]
    simp only [List.map_cons, Instr.findNow, e, mfind]
    by_cases h : k = m.k
    · rw [if_pos h]
      have : (k == m.k) = true := by simpa using h
      rw [this]; rfl
    · rw [if_neg h]
      have : (k == m.k) = false := by simpa using h
      rw [this]
      exact findNow_eq k r (i + 1)
theorem mfind_some {k : Int} : ∀ {ms : List Me} {i j : Nat} {v : Value}, mfind k ms i = some (j, v) → ∃ n m, j = i + n ∧ ms[n]? = some m ∧ m.k = k ∧ m.v = v
  | [], _, _, _, h => by simp [mfind] at h
  | m :: r, i, j, v, h => by
    simp only [mfind] at h
    by_cases hk : k = m.k
    · rw [if_pos hk] at h
      cases h
      exact ⟨0, m, rfl, rfl, hk.symm, rfl⟩
    · rw [if_neg hk] at h
      obtain ⟨n, x, h1, h2, h3, h4⟩ := mfind_some h
      exact ⟨n + 1, x, by omega, by simpa using h2, h3, h4⟩
theorem mfind_none {k : Int} : ∀ {ms : List Me} {i : Nat}, mfind k ms i = none → ∀ m ∈ ms, m.k ≠ k
  | [], _, _ => by simp
  | m :: r, i, h => by
    simp only [mfind] at h
    by_cases hk : k = m.k
    · rw [if_pos hk] at h; cases h
    · rw [if_neg hk] at h
      intro x hx
      rcases List.mem_cons.1 hx with rfl | hx
      · exact fun e => hk e.symm
      · exact mfind_none h x hx
/-- How a map stands: its keys are unlike, its entries have their ages. -/
structure MWf (ms : List Me) (clock : Nat) : Prop where
  keys : ms.Pairwise (fun a b => a.k ≠ b.k)
  ages : ms.Pairwise (fun a b => a.born < b.born)
  old : ∀ m ∈ ms, m.born < clock
def aget (l : List (Int × Value)) (k : Int) : Option Value := (l.find? (fun p => p.1 == k)).map (·.2)
def aput : List (Int × Value) → Int → Value → List (Int × Value)
  | [], k, v => [(k, v)]
  | p :: l, k, v => if p.1 = k then (k, v) :: l else p :: aput l k v
def adel (l : List (Int × Value)) (k : Int) : List (Int × Value) := l.filter (fun p => p.1 != k)
theorem aget_cons (p : Int × Value) (l : List (Int × Value)) (k : Int) : aget (p :: l) k = if p.1 = k then some p.2 else aget l k := by
  unfold aget
  by_cases h : p.1 = k
  · simp [h]
  · have : (p.1 == k) = false := by simpa using h
    simp [List.find?_cons, this, h]
theorem aget_put (l : List (Int × Value)) (k : Int) (v : Value) (j : Int) : aget (aput l k v) j = if j = k then some v else aget l j := by
  induction l with
  | nil =>
    simp only [aput, aget_cons]
    by_cases h : k = j
    · subst h; simp
    · rw [if_neg h, if_neg (fun e => h e.symm)]
  | cons p l ih =>
    simp only [aput]
    by_cases h : p.1 = k
    · rw [if_pos h, aget_cons, aget_cons]
      by_cases hj : k = j
      · subst hj; simp
      · rw [if_neg hj, if_neg (fun e => hj e.symm), if_neg (by rw [h]; exact hj)]
    · rw [if_neg h, aget_cons, aget_cons, ih]
      by_cases hj : p.1 = j
      · rw [if_pos hj, if_pos hj, if_neg (by rintro rfl; exact h hj)]
      · rw [if_neg hj, if_neg hj]
theorem aget_del (l : List (Int × Value)) (k j : Int) : aget (adel l k) j = if j = k then none else aget l j := by
  induction l with
  | nil => simp [adel, aget]
  | cons p l ih =>
    unfold adel at *
    rw [List.filter_cons]
    by_cases h : p.1 = k
    · have : (p.1 != k) = false := by simpa using h
      rw [this]
      simp only [Bool.false_eq_true, if_false]
      rw [ih, aget_cons]
      by_cases hj : j = k
      · rw [if_pos hj, if_pos hj]
      · rw [if_neg hj, if_neg hj, if_neg (by rw [h]; exact fun e => hj e.symm)]
    · have : (p.1 != k) = true := by simpa using h
      rw [this]
      simp only [if_true]
      rw [aget_cons, ih, aget_cons]
      by_cases hj : p.1 = j
      · rw [if_pos hj, if_pos hj, if_neg (by rintro rfl; exact h hj)]
      · rw [if_neg hj, if_neg hj]
def mkv (m : Me) : Int × Value := (m.k, m.v)
theorem mfind_get {k : Int} : ∀ (ms : List Me) (i : Nat), (mfind k ms i).map (·.2) = aget (ms.map mkv) k
  | [], _ => rfl
  | m :: r, i => by
    have e : aget ((m :: r).map mkv) k = if m.k = k then some m.v else aget (r.map mkv) k := aget_cons (mkv m) (r.map mkv) k
    rw [e]
    simp only [mfind]
    by_cases h : k = m.k
    · rw [if_pos h, if_pos h.symm]; rfl
    · rw [if_neg h, if_neg (Ne.symm h)]
      exact mfind_get r (i + 1)
/-- What a store makes of the entries. -/
def mupd (ms : List Me) (clock : Nat) (k : Int) (v : Value) : List Me × Nat :=
  match mfind k ms 0 with
  | some (i, _) => (ms.modify i (fun m => { m with v := v }), clock)
  | none => (ms ++ [⟨k, v, clock⟩], clock + 1)
theorem mod_put {k : Int} {v : Value} : ∀ {ms : List Me} {i : Nat} {m : Me}, ms.Pairwise (fun a b => a.k ≠ b.k) → ms[i]? = some m → m.k = k → (ms.modify i (fun m => { m with v := v })).map mkv = aput (ms.map mkv) k v
  | [], i, m, _, h, _ => by simp at h
  | x :: r, 0, m, hp, h, hk => by
    simp at h
    subst h
    simp [List.modify_cons, mkv, aput, hk]
  | x :: r, i + 1, m, hp, h, hk => by
    have h' : r[i]? = some m := by simpa using h
    have hne : x.k ≠ k := by
      have := (List.pairwise_cons.1 hp).1 m (List.mem_of_getElem? h')
      rw [hk] at this; exact this
    have ih := mod_put (v := v) (List.pairwise_cons.1 hp).2 h' hk
    simp only [List.modify_succ_cons, List.map_cons, aput]
    rw [if_neg (by simpa [mkv] using hne), ih]
theorem app_put {k : Int} {v : Value} : ∀ {l : List (Int × Value)}, (∀ p ∈ l, p.1 ≠ k) → l ++ [(k, v)] = aput l k v
  | [], _ => rfl
  | p :: l, h => by
    simp only [List.cons_append, aput]
    rw [if_neg (h p (by simp)), app_put (fun q hq => h q (by simp [hq]))]
theorem mupd_kv {ms : List Me} {clock : Nat} {k : Int} {v : Value} (h : MWf ms clock) : (mupd ms clock k v).1.map mkv = aput (ms.map mkv) k v := by
  unfold mupd
  cases hf : mfind k ms 0 with
  | none =>
    simp only [List.map_append, List.map_cons, List.map_nil]
    refine app_put fun p hp => ?_
    obtain ⟨m, hm, rfl⟩ := List.mem_map.1 hp
    exact mfind_none hf m hm
  | some p =>
    obtain ⟨j, u⟩ := p
    obtain ⟨n, m, rfl, h2, h3, h4⟩ := mfind_some hf
    simp only [Nat.zero_add]
    exact mod_put h.keys h2 h3
theorem pw_modify {R : Me → Me → Prop} {f : Me → Me} (h1 : ∀ a b, R a b → R (f a) b) (h2 : ∀ a b, R a b → R a (f b)) : ∀ {l : List Me} {i : Nat}, l.Pairwise R → (l.modify i f).Pairwise R
  | [], i, h => by simp
  | x :: r, 0, h => by
    obtain ⟨a, b⟩ := List.pairwise_cons.1 h
    simp only [List.modify_zero_cons]
    exact List.pairwise_cons.2 ⟨fun y hy => h1 _ _ (a y hy), b⟩
  | x :: r, i + 1, h => by
    obtain ⟨a, b⟩ := List.pairwise_cons.1 h
    simp only [List.modify_succ_cons]
    refine List.pairwise_cons.2 ⟨fun y hy => ?_, pw_modify h1 h2 b⟩
    obtain ⟨j, hj⟩ := List.getElem?_of_mem hy
    rw [List.getElem?_modify] at hj
    cases hx : r[j]? with
    | none => rw [hx] at hj; simp at hj
    | some z =>
      rw [hx] at hj
      simp at hj
      have hz := a z (List.mem_of_getElem? hx)
      by_cases hij : i = j
      · rw [if_pos hij] at hj; subst hj; exact h2 _ _ hz
      · rw [if_neg hij] at hj; subst hj; exact hz
theorem mupd_wf {ms : List Me} {clock : Nat} {k : Int} {v : Value} (h : MWf ms clock) : MWf (mupd ms clock k v).1 (mupd ms clock k v).2 := by
  unfold mupd
  cases hf : mfind k ms 0 with
  | none =>
    simp only
    refine ⟨?_, ?_, ?_⟩
    · rw [List.pairwise_append]
      refine ⟨h.keys, by simp, fun a ha b hb => ?_⟩
      simp at hb
      subst hb
      exact mfind_none hf a ha
    · rw [List.pairwise_append]
      refine ⟨h.ages, by simp, fun a ha b hb => ?_⟩
      simp at hb
      subst hb
      exact h.old a ha
    · intro m hm
      rcases List.mem_append.1 hm with hm | hm
      · have := h.old m hm; omega
      · simp at hm; subst hm; simp
  | some p =>
    simp only
    refine ⟨pw_modify (f := fun m => { m with v := v }) (fun a b h => h) (fun a b h => h) h.keys, pw_modify (f := fun m => { m with v := v }) (fun a b h => h) (fun a b h => h) h.ages, ?_⟩
    intro m hm
    obtain ⟨j, hj⟩ := List.getElem?_of_mem hm
    rw [List.getElem?_modify] at hj
    cases hx : ms[j]? with
    | none => rw [hx] at hj; simp at hj
    | some z =>
      rw [hx] at hj
      simp at hj
      have hz := h.old z (List.mem_of_getElem? hx)
      split at hj <;> (subst hj; exact hz)

theorem setObj_upd {w : World} {b : Nat} {o : Obj} (o' : Obj) (h : At w b o) (hc : match o with | .cells .. => False | _ => True) :
    ∃ w', (setObj b o').run PP w = .ok () w' ∧ Upd w w' b o' := by
  unfold At at h
  refine ⟨{ w with heap := w.heap.setIfInBounds b o' }, ?_, ?_, by simp, ?_, rfl, rfl⟩
  · cases o <;> simp only at hc <;> simp [setObj, Sem.run, h]
  · unfold At
    have hl : b < w.heap.size := (Array.getElem?_eq_some_iff.1 h).1
    simp [hl]
  · intro b' hb'
    simp [Array.getElem?_setIfInBounds_ne (Ne.symm hb')]
theorem getObj_run {w : World} {b : Nat} {o : Obj} (h : At w b o) (hc : match o with | .cells .. => False | _ => True) : (getObj b).run PP w = .ok o w := by
  unfold At at h
  cases o <;> simp only at hc <;> simp [getObj, Sem.run, h]
theorem zeroS_run {t : Nat} {z : Value} (h : inTau t = true) (ha : (tau t).agg = false) (hk : (tau t).k ≠ .other) (hz : (tau t).zero = some [z]) (w : World) : (zeroValue t).run PP w = .ok z w := by
  have h0 := tau_ok h
  unfold teOK at h0
  split at h0
  · rename_i he; exact absurd he hk
  · split at h0
    · rename_i i hi
      simp only [Bool.and_eq_true, beq_iff_eq] at h0
      obtain ⟨⟨h1, h2⟩, h3⟩ := h0
      rw [hz] at h2
      simp only at h2
      split at h2
      · rename_i v hv
        simp only [Bool.and_eq_true] at h2
        obtain ⟨h4, h5⟩ := h2
        have hc := vsbeq_eq h4
        have hv2 : v = z := by
          split at h5
          · rw [ha] at h5; cases h5
          · cases h5
          · rename_i hna hnt
            cases v <;> first | (exact absurd rfl (hna _)) | (exact absurd rfl (hnt _)) | (simp [Value.cells] at hc; exact hc)
        unfold zeroValue
        simp only [Sem.run_bind, typeInfo, run_program, Result.andThen_ok, hi, Sem.run_pure, hv, hv2]
      · cases h2
    · cases h0
theorem chkKey_run {kt : TypeId} {kd : IntKind} (e : Bool) (h : PP.underlying kt = some (.int kd)) (x : Int) (w : World) : (Instr.checkKey e 10000 kt (i64 x)).run PP w = .ok () w := by
  unfold Instr.checkKey
  simp only [Sem.run_bind, run_underlying' h, Result.andThen_ok]
  rfl
theorem findKey_run {kt : TypeId} (h : PP.underlying kt = some (.int .i64)) (k : Int) (ms : List Me) (w : World) : (Instr.findKey kt (i64 k) (ms.map meE)).run PP w = .ok (mfind k ms 0) w := by
  unfold Instr.findKey
  simp only [Sem.run_bind, run_underlying' h, Result.andThen_ok, findNow_eq, Sem.run_pure]
section
variable {ty : TypeId} {w : World} {K : Value → World → Prop} {X : List PanicEntry → World → Prop}
/-- An int-keyed map type. -/
def imap (t e : Nat) : Bool := inTau t && (match (tau t).k with | .map a b => inTau a && (match (tau a).k with | .int .i64 => true | _ => false) && Nat.beq b e | _ => false)
theorem imap_ok {t e : Nat} (h : imap t e = true) : ∃ a, PP.underlying t = some (.map a e) ∧ PP.underlying a = some (.int .i64) := by
  simp only [imap, Bool.and_eq_true] at h
  obtain ⟨h1, h2⟩ := h
  split at h2
  · rename_i a b hk
    simp only [Bool.and_eq_true] at h2
    obtain ⟨⟨h3, h4⟩, h5⟩ := h2
    have := Nat.eq_of_beq_eq_true h5
    subst this
    split at h4
    · rename_i hk2
      exact ⟨a, kmap h1 hk, kint h3 hk2⟩
    · cases h4
  · cases h2
theorem lookup_run {t e b clock : Nat} {ms : List Me} {k : Int} {ok : Bool} {z : Value} (ht : imap t e = true) (hb : At w b (.map (ms.map meE).toArray clock)) (hz : (zeroValue e).run PP w = .ok z w) :
    (Instr.lookup t (.map (some b)) (i64 k) ok).run PP w = .ok (if ok then .tuple #[(aget (ms.map mkv) k).getD z, .bool (aget (ms.map mkv) k).isSome] else (aget (ms.map mkv) k).getD z) w := by
  obtain ⟨a, h1, h2⟩ := imap_ok ht
  unfold Instr.lookup
  simp only [Sem.run_bind, run_underlying' h1, Result.andThen_ok]
  simp only [getObj_run hb trivial, Result.andThen_ok, Sem.run_bind, Sem.run_pure, chkKey_run _ h2, findKey_run h2]
  rw [← mfind_get ms 0]
  cases mfind k ms 0 with
  | none => simp [hz]
  | some p => obtain ⟨i, v⟩ := p; simp
theorem RUN.look {t e b clock : Nat} {x y : Operand} {ms : List Me} {k : Int} {z v : Value} (hb : At w b (.map (ms.map meE).toArray clock)) (ht : imap t e = true) (he : scal e = true) (hz : (tau e).zero = some [z]) (hv : (aget (ms.map mkv) k).getD z = v) (kk : K v w) :
    RUN (.lookup t x y false) ty [.map (some b), i64 k] w K X := by
  obtain ⟨h1, h2, h3⟩ := scal_ok he
  exact .ok _ w (by rw [show semOf (.lookup t x y false) ty [.map (some b), i64 k] = Instr.lookup t (.map (some b)) (i64 k) false from rfl, lookup_run ht hb (zeroS_run h1 h2 h3 hz w), hv]; rfl) kk
theorem RUN.lookA {t e b clock : Nat} {x y : Operand} {ms : List Me} {k : Int} {z : List Value} {v : Value} (hb : At w b (.map (ms.map meE).toArray clock)) (ht : imap t e = true) (he : (inTau e && (tau e).agg) = true) (hz : (tau e).zero = some z) (hv : (aget (ms.map mkv) k).getD (.agg z.toArray) = v) (kk : K v w) :
    RUN (.lookup t x y false) ty [.map (some b), i64 k] w K X := by
  simp only [Bool.and_eq_true] at he
  exact .ok _ w (by rw [show semOf (.lookup t x y false) ty [.map (some b), i64 k] = Instr.lookup t (.map (some b)) (i64 k) false from rfl, lookup_run ht hb (zeroA_run he.1 he.2 hz w), hv]; rfl) kk
theorem update_run {t e b clock : Nat} {ms : List Me} {k : Int} {v : Value} (ht : imap t e = true) (hb : At w b (.map (ms.map meE).toArray clock)) :
    ∃ w', (Instr.mapUpdate t (.map (some b)) (i64 k) v).run PP w = .ok () w' ∧ Upd w w' b (.map ((mupd ms clock k v).1.map meE).toArray (mupd ms clock k v).2) := by
  obtain ⟨a, h1, h2⟩ := imap_ok ht
  obtain ⟨w', hr, hu⟩ := setObj_upd (.map ((mupd ms clock k v).1.map meE).toArray (mupd ms clock k v).2) hb trivial
  refine ⟨w', ?_, hu⟩
  rw [← hr]
  unfold Instr.mapUpdate
  simp only [Sem.run_bind, run_underlying' h1, Result.andThen_ok]
  simp only [getObj_run hb trivial, Result.andThen_ok, Sem.run_bind, Sem.run_pure, chkKey_run _ h2, findKey_run h2]
  unfold mupd
  cases hf : mfind k ms 0 with
  | none => simp [meE]
  | some p =>
    obtain ⟨i, u⟩ := p
    obtain ⟨n, m, rfl, g2, g3, g4⟩ := mfind_some hf
    have hkey : Instr.keyThatStays (((List.map meE ms).toArray[0 + n]?.map (·.key)).getD (i64 k)) (i64 k) = (pure (i64 k) : Sem Value) := by
      have e1 : (List.map meE ms).toArray[0 + n]? = some (meE m) := by simp [g2]
      rw [e1]
      unfold Instr.keyThatStays
      have e2 : Instr.sameBits 10000 (((some (meE m)).map (·.key)).getD (i64 k)) (i64 k) = true := by
        simp [meE, Instr.sameBits, g3]
      rw [if_pos e2]
    simp only [hkey, Sem.run_bind, Sem.run_pure, Result.andThen_ok]
    congr 2
    simp only [Nat.zero_add]
    congr 1
    apply Array.ext'
    simp only [Array.toList_modify]
    apply List.ext_getElem?
    intro j
    simp only [List.getElem?_modify, List.getElem?_map]
    cases hj : ms[j]? with
    | none => simp
    | some x =>
      simp only [Option.map_some]
      by_cases hnj : n = j
      · subst hnj
        rw [g2] at hj
        cases hj
        simp [meE, g3]
      · simp [hnj]
theorem RUN.mput {t e b clock : Nat} {x y z : Operand} {ms : List Me} {k : Int} {v : Value} (hb : At w b (.map (ms.map meE).toArray clock)) (ht : imap t e = true)
    (kk : ∀ w', Upd w w' b (.map ((mupd ms clock k v).1.map meE).toArray (mupd ms clock k v).2) → K undef w') : RUN (.mapUpdate t x y z) ty [.map (some b), i64 k, v] w K X := by
  obtain ⟨w', hr, hu⟩ := update_run (k := k) (v := v) ht hb
  refine .ok undef w' ?_ (kk w' hu)
  show ((do Instr.mapUpdate t (.map (some b)) (i64 k) v; pure undef) : Sem Value).run PP w = _
  rw [uu_run, hr]; rfl
theorem RUN.mins {t e b clock : Nat} {x y z : Operand} {ms : List Me} {k : Int} {v : Value} (hb : At w b (.map (ms.map meE).toArray clock)) (ht : imap t e = true)
    (kk : ∀ w', Upd w w' b (.map ((mupd ms clock k v).1.map meE).toArray (mupd ms clock k v).2) → K undef w') : RUN (.insert t x y z) ty [.map (some b), i64 k, v] w K X := by
  obtain ⟨w', hr, hu⟩ := update_run (k := k) (v := v) ht hb
  refine .ok undef w' ?_ (kk w' hu)
  show ((do Instr.mapUpdate t (.map (some b)) (i64 k) v; pure undef) : Sem Value).run PP w = _
  rw [uu_run, hr]; rfl
theorem RUN.range {t e b clock : Nat} {x : Operand} {es : Array MapEntry} (hb : At w b (.map es clock)) (ht : imap t e = true)
    (kk : ∀ bi w', New w w' bi (.mapIter (some b) clock #[] clock) → K (pt bi) w') : RUN (.range t x) ty [.map (some b)] w K X := by
  obtain ⟨a, h1, h2⟩ := imap_ok ht
  refine .ok _ (w.alloc (.mapIter (some b) clock #[] clock)) ?_ (kk _ _ (alloc_new _))
  show (Instr.range t _).run PP w = _
  unfold Instr.range
  simp only [Sem.run_bind, run_underlying' h1, Result.andThen_ok]
  simp only [getObj_run hb trivial, Result.andThen_ok, Sem.run_bind, Sem.run_pure, run_newObj]
  rfl
/-- A round's head: all has been seen, or one entry more comes. -/
theorem RUN.next {bi b clock : Nat} {x : Operand} {seen : Array Nat} {ms : List Me} (hi : At w bi (.mapIter (some b) clock seen clock)) (hb : At w b (.map (ms.map meE).toArray clock)) (hw : MWf ms clock)
    (k0 : (∀ m ∈ ms, m.born ∈ seen) → K (.tuple #[.bool false]) w)
    (k1 : ∀ (i : Nat) (m : Me) (w' : World), ms[i]? = some m → m.born ∉ seen → Upd w w' bi (.mapIter (some b) clock (seen.push m.born) clock) → K (.tuple #[.bool true, i64 m.k, m.v]) w') : RUN (.next x false) ty [pt bi] w K X := by
  have hsem : semOf (.next x false) ty [pt bi] = Instr.next (pt bi) false ty := rfl
  have hmem : ∀ e ∈ (leftOf (List.map meE ms).toArray seen).toList, ∃ (i : Nat) (m : Me), ms[i]? = some m ∧ e = meE m ∧ m.born ∉ seen := by
    intro e he
    simp only [leftOf, Array.toList_filter, List.mem_filter, List.mem_map] at he
    obtain ⟨⟨m, hm, rfl⟩, h2⟩ := he
    obtain ⟨i, hi⟩ := List.getElem?_of_mem hm
    refine ⟨i, m, hi, rfl, ?_⟩
    simpa [meE] using h2
  have hold : ∀ x ∈ (List.map meE ms).toArray.toList, x.born < clock := by
    intro e he
    simp only [List.mem_map] at he
    obtain ⟨m, hm, rfl⟩ := he
    exact hw.old m hm
  rcases run_next_at (P := PP) w ty bi b clock clock seen _ clock hi hb hold (Nat.le_refl _) with ⟨h0, hr⟩ | ⟨e, he, w1, hw1, hr⟩
  · refine .ok _ w (by rw [hsem]; exact hr) (k0 fun m hm => ?_)
    have hL := Array.eq_empty_of_size_eq_zero h0
    have : meE m ∉ leftOf (List.map meE ms).toArray seen := by rw [hL]; simp
    simp only [leftOf, Array.mem_filter, not_and] at this
    have h2 := this (by simpa using ⟨m, hm, rfl⟩)
    simpa [meE] using h2
  · obtain ⟨i, m, h1, rfl, h3⟩ := hmem e he
    refine .ok _ _ (by rw [hsem]; exact hr) (k1 i m _ h1 h3 ?_)
    have hh : w1.heap = w.heap ∧ w1.os = w.os ∧ w1.output = w.output := by
      rcases hw1 with rfl | rfl
      · exact ⟨rfl, rfl, rfl⟩
      · exact ⟨rfl, rfl, rfl⟩
    have hl : bi < w.heap.size := At.lt hi
    refine ⟨?_, ?_, fun y hy => ?_, hh.2.1, hh.2.2⟩
    · unfold At
      simp [ChangeMaps.setBlock, hh.1, hl, meE]
    · simp [ChangeMaps.setBlock, hh.1]
    · simp [ChangeMaps.setBlock, hh.1, Array.getElem?_setIfInBounds_ne (Ne.symm hy)]
end
/-- A map as a part: what it holds. -/
def MpAt (w : World) (S : Nat → Prop) (b : Nat) (l : List (Int × Value)) : Prop := S b ∧ ∃ ms clock, At w b (.map (ms.map meE).toArray clock) ∧ MWf ms clock ∧ ms.map mkv = l
theorem MpAt.fm {b : Nat} {l : List (Int × Value)} : Fm (fun w S => MpAt w S b l) := by
  rintro w w' S S' ⟨h1, ms, clock, h2, h3⟩ hf
  exact ⟨(hf b h2.lt h1).2, ms, clock, (hf b h2.lt h1).1.trans h2, h3⟩
def cMp (b : Nat) (l : List (Int × Value)) : Cmp := ⟨fun w S => MpAt w S b l, MpAt.fm⟩
theorem MpAt.new {w w' : World} {b : Nat} (h : New w w' b (.map #[] 0)) (S : Nat → Prop) (hS : S b) : MpAt w' S b [] := ⟨hS, [], 0, h.here, ⟨by simp, by simp, by simp⟩, rfl⟩
end Go.E
end
/- Sizes: the classes' functions of the program and of the reference. -/
set_option linter.unusedVariables false
set_option maxRecDepth 10000
noncomputable section
namespace Go.E
open Go Go.Proofs

def szs : List Int := [1, 2, 3, 4, 6, 8, 12, 16, 24, 32, 48, 64, 96, 128, 192, 256]
def pgsL : List Int := [1, 1, 1, 1, 1, 1, 1, 1, 2, 1, 3, 1, 3, 2, 3, 4]
def sltL : List Int := [64, 32, 21, 16, 10, 8, 5, 4, 5, 2, 4, 1, 2, 1, 1, 1]
/-- A class's size, pages, places. -/
def csz (k : Nat) : Int := szs.getD k 0
def cpg (k : Nat) : Int := pgsL.getD k 0
def cst (k : Nat) : Int := sltL.getD k 0
theorem csz_get {k : Nat} (h : k < 16) : szs[k]? = some (csz k) := by
  unfold csz; rw [List.getD_eq_getElem?_getD]
  have : k < szs.length := h
  rw [List.getElem?_eq_getElem this]; rfl
theorem csz_bd {k : Nat} (h : k < 16) : 1 ≤ csz k ∧ csz k ≤ 256 := by
  have := (by decide : ∀ k, k < 16 → 1 ≤ csz k ∧ csz k ≤ 256) k h; exact this
theorem cpg_bd {k : Nat} (h : k < 16) : 1 ≤ cpg k ∧ cpg k ≤ 4 := (by decide : ∀ k, k < 16 → 1 ≤ cpg k ∧ cpg k ≤ 4) k h
theorem cst_bd {k : Nat} (h : k < 16) : 1 ≤ cst k ∧ cst k ≤ 64 := (by decide : ∀ k, k < 16 → 1 ≤ cst k ∧ cst k ≤ 64) k h
theorem cst_eq {k : Nat} (h : k < 16) : cst k = cpg k * 64 / csz k := (by decide : ∀ k, k < 16 → cst k = cpg k * 64 / csz k) k h
theorem pg_iff {k p : Nat} (h : k < 16) (h1 : 1 ≤ p) (h2 : (p : Int) ≤ cpg k) : (((p : Int) * 64) % csz k * 8 ≤ (p : Int) * 64 - ((p : Int) * 64) % csz k) ↔ (p : Int) = cpg k := by
  have : p < 5 := by have := cpg_bd h; omega
  exact (by decide : ∀ k : Nat, k < 16 → ∀ p : Nat, p < 5 → 1 ≤ p → (p : Int) ≤ cpg k → ((((p : Int) * 64) % csz k * 8 ≤ (p : Int) * 64 - ((p : Int) * 64) % csz k) ↔ (p : Int) = cpg k)) k h p this h1 h2
theorem pg_iff' {k p : Nat} (h : k < 16) (h1 : 1 ≤ p) (h2 : (p : Int) ≤ cpg k) : (csz k ≤ (p : Int) * 64 ∧ ((p : Int) * 64) % csz k * 8 ≤ (p : Int) * 64) ↔ (p : Int) = cpg k := by
  have : p < 5 := by have := cpg_bd h; omega
  exact (by decide : ∀ k : Nat, k < 16 → ∀ p : Nat, p < 5 → 1 ≤ p → (p : Int) ≤ cpg k → ((csz k ≤ (p : Int) * 64 ∧ ((p : Int) * 64) % csz k * 8 ≤ (p : Int) * 64) ↔ (p : Int) = cpg k)) k h p this h1 h2

theorem table_any (w : World) : Calls PP 116 #[] w (fun e w' => e = .returned (.agg (ints szs).toArray) ∧ Ext w w') := by
  refine calls_den (fn := Tryz.f116) (args := []) Tryz.func116 rfl (by simp) (fun R hR => ?_)
  refine RUN.alloc rfl rfl (fun b1 w1 n1 => ?_)
  refine RUN.buildArr (r := ints szs) rfl rfl rfl (by kernel_rfl) ?_
  refine RUN.sta (vs := ints szs) n1.here rfl (by simp [ints, szs]) (by decide) (fun w2 u2 => ?_)
  refine RUN.lda u2.here rfl (by simp [setAt, ints, szs]; decide) rfl ?_
  exact ⟨rfl, hR _ _ ⟨rfl, n1.ext.trans u2.ch (fun x hx hb => by have := n1.blk; omega)⟩⟩

def IsCl (n : Int) (k : Nat) : Prop := k < 16 ∧ n ≤ csz k ∧ ∀ j, j < k → csz j < n
theorem isCl_ex {n : Int} (h : 1 ≤ n ∧ n ≤ 256) : ∃ k, IsCl n k := by
  have h1 : ∃ k, k < 16 ∧ n ≤ csz k := ⟨15, by decide, h.2⟩
  let p : Nat → Prop := fun k => k < 16 ∧ n ≤ csz k
  have key : ∀ m, p m → ∃ k, IsCl n k := by
    intro m
    induction m using Nat.strongRecOn with
    | _ m ih =>
      intro hm
      by_cases hj : ∃ j, j < m ∧ n ≤ csz j
      · obtain ⟨j, hj, hn⟩ := hj; exact ih j hj ⟨by have := hm.1; omega, hn⟩
      · exact ⟨m, hm.1, hm.2, fun j hj' => Int.not_le.1 fun hn => hj ⟨j, hj', hn⟩⟩
  obtain ⟨k, hk⟩ := h1
  exact key k hk
theorem tbl_get {i : Nat} (h : i < 16) : (ints szs)[(i : Int).toNat * 1]? = some (.int .i64 (csz i)) := by
  rw [Int.toNat_natCast, Nat.mul_one]; exact ints_get (csz_get h)

theorem of_in {n : Int} {k : Nat} (hn : 1 ≤ n) (hk : IsCl n k) (w : World) : Calls PP 56 #[.int .i64 n] w (fun e w' => e = .returned (.int .i64 k) ∧ Ext w w') := by
  obtain ⟨h1, h2, h3⟩ := hk
  refine calls_den (fn := Tryz.f56) (args := [_]) Tryz.func56 rfl (by simp) (fun R hR => ?_)
  refine CALL.by (table_any w) rfl ?_
  rintro e w2 ⟨rfl, x2⟩
  refine LOOP.inv (X := Nat) (fun i => [(0, .int .i64 n), (5, .agg (ints szs).toArray), (6, .int .i64 i)]) (fun i w => i ≤ k ∧ w = w2) (fun i => k - i) 0 ⟨rfl, rfl, rfl, trivial⟩ ⟨Nat.zero_le _, rfl⟩ ?_
  rintro i _ ⟨hi, rfl⟩ j
  refine CLt.yes (by omega) ?_
  refine RUN.index rfl rfl rfl (by omega) (tbl_get (by omega)) ?_
  refine CLt.no (by omega) ?_
  rcases Nat.lt_or_eq_of_le hi with hlt | rfl
  · have := h3 i hlt
    refine CLt.yes (by omega) ?_
    refine ART.add (by omega) (fun r hr => ?_)
    refine Nxt.mk (i + 1) ?_ ?_ ?_
    · exact ⟨rfl, rfl, by subst hr; rfl, trivial⟩
    · exact ⟨hlt, rfl⟩
    · omega
  · refine CLt.no (by omega) ?_
    exact hR _ _ ⟨rfl, x2⟩
theorem of_out {n : Int} (hn : n < 1) (w : World) : Calls PP 56 #[.int .i64 n] w (fun e w' => e = .returned (.int .i64 (-1)) ∧ Ext w w') := by
  refine calls_den (fn := Tryz.f56) (args := [_]) Tryz.func56 rfl (by simp) (fun R hR => ?_)
  refine CALL.by (table_any w) rfl ?_
  rintro e w2 ⟨rfl, x2⟩
  refine LOOP.inv (X := Nat) (fun i => [(0, .int .i64 n), (5, .agg (ints szs).toArray), (6, .int .i64 i)]) (fun i w => i ≤ 16 ∧ w = w2) (fun i => 16 - i) 0 ⟨rfl, rfl, rfl, trivial⟩ ⟨Nat.zero_le _, rfl⟩ ?_
  rintro i _ ⟨hi, rfl⟩ j
  by_cases hlt : i < 16
  · refine CLt.yes (by omega) ?_
    refine RUN.index rfl rfl rfl (by omega) (tbl_get hlt) ?_
    refine CLt.yes (by omega) ?_
    refine ART.add (by omega) (fun r hr => ?_)
    refine Nxt.mk (i + 1) ?_ ?_ ?_
    · exact ⟨rfl, rfl, by subst hr; rfl, trivial⟩
    · exact ⟨hlt, rfl⟩
    · omega
  · refine CLt.no (by omega) ?_
    exact hR _ _ ⟨rfl, x2⟩
theorem count_any (w : World) : Calls PP 141 #[] w (fun e w' => e = .returned (.int .i64 16) ∧ Ext w w') := by
  refine calls_den (fn := Tryz.f141) (args := []) Tryz.func141 rfl (by simp) (fun R hR => ?_)
  refine CALL.by (table_any w) rfl ?_
  rintro e w2 ⟨rfl, x2⟩
  exact hR _ _ ⟨rfl, x2⟩
theorem size_in {x : Int} {k : Nat} (hx : x = k) (hk : k < 16) (w : World) : Calls PP 109 #[.int .i64 x] w (fun e w' => e = .returned (.int .i64 (csz k)) ∧ Ext w w') := by
  refine calls_den (fn := Tryz.f109) (args := [_]) Tryz.func109 rfl (by simp) (fun R hR => ?_)
  refine CLt.no (by omega) ?_
  refine CALL.by (count_any w) rfl ?_
  rintro e w1 ⟨rfl, x1⟩
  refine CLt.yes (by omega) ?_
  refine CALL.by (table_any w1) rfl ?_
  rintro e w2 ⟨rfl, x2⟩
  refine RUN.index rfl rfl rfl (by omega) (by subst hx; exact tbl_get hk) ?_
  exact hR _ _ ⟨rfl, x1.trans' x2⟩
theorem size_neg {x : Int} (hx : x < 0) (w : World) : Calls PP 109 #[.int .i64 x] w (fun e w' => e = .returned (.int .i64 0) ∧ Ext w w') := by
  refine calls_den (fn := Tryz.f109) (args := [_]) Tryz.func109 rfl (by simp) (fun R hR => ?_)
  refine CLt.yes (by omega) ?_
  exact hR _ _ ⟨rfl, Ext.refl w⟩
theorem pages_in {x : Int} {k : Nat} (hx : x = k) (hk : k < 16) (w : World) : Calls PP 114 #[.int .i64 x] w (fun e w' => e = .returned (.int .i64 (cpg k)) ∧ Ext w w') := by
  have hz := csz_bd hk
  have hp := cpg_bd hk
  refine calls_den (fn := Tryz.f114) (args := [_]) Tryz.func114 rfl (by simp) (fun R hR => ?_)
  refine CALL.by (size_in hx hk w) rfl ?_
  rintro e w1 ⟨rfl, x1⟩
  refine CEq.no (by omega) ?_
  refine LOOP.inv (X := Nat) (fun p => [(3, .int .i64 (csz k)), (4, .int .i64 p)]) (fun p w' => 1 ≤ p ∧ (p : Int) ≤ cpg k ∧ Ext w w') (fun p => 5 - p) 1 ⟨rfl, rfl, trivial⟩ ⟨Nat.le_refl _, by omega, x1⟩ ?_
  rintro p w2 ⟨hp1, hp2, x2⟩ j
  have hiff := pg_iff hk hp1 hp2
  have hm := Int.emod_nonneg ((p : Int) * 64) (by omega : csz k ≠ 0)
  have hm2 := Int.emod_lt_of_pos ((p : Int) * 64) (by omega : 0 < csz k)
  refine ART.mul (by omega) (fun a ha => ?_)
  refine DRAW.q 9 (qs 9 0) (by kernel_rfl) (fun _ _ _ _ _ h => h) ?_
  subst ha
  refine ART.rem (by omega) (by omega) (fun b hb => ?_)
  refine ART.mul (by omega) (fun c hc => ?_)
  refine ART.rem (by omega) (by omega) (fun b' hb' => ?_)
  refine ART.sub (by omega) (fun d hd => ?_)
  subst hb hc hb' hd
  intro w3 x3
  by_cases hq : (p : Int) = cpg k
  · refine CLt.no ((by have := hiff.2 hq; omega)) ?_
    exact hR _ _ ⟨by rw [← hq]; rfl, x2.trans' x3⟩
  · refine CLt.yes ((Int.not_le.1 fun h => hq (hiff.1 h))) ?_
    refine ART.add (by omega) (fun r hr => ?_)
    refine Nxt.mk (p + 1) ?_ ?_ ?_
    · exact ⟨rfl, by subst hr; rfl, trivial⟩
    · exact ⟨by omega, by omega, x2.trans' x3⟩
    · omega
theorem slots_in {x : Int} {k : Nat} (hx : x = k) (hk : k < 16) (w : World) : Calls PP 115 #[.int .i64 x] w (fun e w' => e = .returned (.int .i64 (cst k)) ∧ Ext w w') := by
  have hz := csz_bd hk
  have hp := cpg_bd hk
  refine calls_den (fn := Tryz.f115) (args := [_]) Tryz.func115 rfl (by simp) (fun R hR => ?_)
  refine CALL.by (size_in hx hk w) rfl ?_
  rintro e w1 ⟨rfl, x1⟩
  refine CLt.yes (by omega) ?_
  refine CALL.by (pages_in hx hk w1) rfl ?_
  rintro e w2 ⟨rfl, x2⟩
  refine ART.mul (by omega) (fun a ha => ?_)
  refine ART.quo (by omega) (by omega) (by omega) (fun b hb => ?_)
  exact hR _ _ ⟨by subst hb ha; rw [cst_eq hk]; rfl, x1.trans' x2⟩
end Go.E
end
