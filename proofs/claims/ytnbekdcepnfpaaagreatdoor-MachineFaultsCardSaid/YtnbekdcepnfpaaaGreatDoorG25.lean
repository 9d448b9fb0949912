/- An instruction is done: what is kept, and what the core makes of it. -/
import Derived.Test.YtnbekdcepnfpaaaGreatDoorG24
set_option linter.unusedVariables false
set_option linter.unusedSimpArgs false
set_option maxRecDepth 10000
namespace Go.E
open Go Go.Proofs

theorem zipWith_set {α β γ : Type} {f : α → β → γ} {a : List α} {b : List β} {n : Nat} {s : α} {t : β} : List.zipWith f (a.set n s) (b.set n t) = (List.zipWith f a b).set n (f s t) := by
  refine List.ext_getElem? fun m => ?_
  rw [List.getElem?_zipWith, List.getElem?_set, List.getElem?_set, List.getElem?_set, List.getElem?_zipWith, List.length_zipWith]
  by_cases hn : n = m
  · subst hn
    rw [if_pos rfl, if_pos rfl, if_pos rfl]
    by_cases h1 : n < a.length <;> by_cases h2 : n < b.length
    · rw [if_pos h1, if_pos h2, if_pos (by omega)]
    · rw [if_pos h1, if_neg h2, if_neg (by omega)]
    · rw [if_neg h1, if_pos h2, if_neg (by omega)]
    · rw [if_neg h1, if_neg h2, if_neg (by omega)]
  · rw [if_neg hn, if_neg hn, if_neg hn]
theorem set_id {α : Type} {l : List α} {n : Nat} {x : α} (h : l[n]? = some x) : l.set n x = l := by
  obtain ⟨hl, he⟩ := List.getElem?_eq_some_iff.1 h
  conv => lhs; rw [← he]
  exact List.set_getElem_self hl
section
variable {σ : MS} {p g : Nat} {x : Prc} {y : Gor}
/-- What stands at the P as an instruction begins. -/
structure Run1 (σ : MS) (p g : Nat) (x : Prc) (y : Gor) : Prop where
  hx : σ.ps[p]? = some x
  hg : x.g = g
  hst : σ.st[g]? = some 2
  hy : σ.gs[g]? = some y
theorem Run1.z (R : Run1 σ p g x y) : (coreM σ).gs[g]? = some (cg1 2 y) := by
  show (List.zipWith cg1 σ.st σ.gs)[g]? = _
  rw [List.getElem?_zipWith, R.hst, R.hy]
theorem InvK.mv (h : InvK 0 1 σ) (R : Run1 σ p g x y) : InvK 0 0 (mvS σ p g x y) ∧ Run1 (mvS σ p g x y) p g { x with row := x.row + 1 } y.mv ∧ ((mvS σ p g x y).commits.length : Int) ≤ (mvS σ p g x y).steps - 1 := by
  have hb := h.ps x (List.mem_of_getElem? R.hx)
  have hgy := h.gs y (List.mem_of_getElem? R.hy)
  have hw := h.weak (a' := 0) (c' := 0) (by omega) (by omega)
  have e : ((mvS σ p g x y).ps.map (·.g)) = σ.ps.map (·.g) := set_same R.hx rfl
  refine ⟨⟨h.pf, ⟨h.off.ph, h.off.force, h.off.hl, h.off.bg, h.off.part⟩, h.hn, h.out, ?_, ?_, ?_, h.sl, h.wl, h.tm, ?_, ?_, ?_, hw.cm, h.clk, h.stp⟩, ⟨?_, R.hg, R.hst, ?_⟩, h.cm⟩
  · simp [mvS, setP, setG, h.rl]
  · simpa [mvS, setP, setG] using h.pl
  · simp [mvS, setP, setG, h.gl]
  · intro z hz
    rcases mem_set hz with hz | rfl
    · exact hw.gs z hz
    · refine ⟨hgy.1, hgy.2.1, ?_, hgy.2.2.2⟩
      show ((y.pc + 1 : Nat) : Int) ≤ 256 + σ.steps - 0
      omega
  · intro z hz
    rcases mem_set hz with hz | rfl
    · exact hw.ps z hz
    · refine ⟨⟨?_, ?_⟩, hb.2⟩
      · show 0 ≤ x.row + 1
        omega
      · show x.row + 1 ≤ σ.steps - 0
        omega
  · rw [e]
    exact h.sch
  · simp [mvS, setP, setG, (List.getElem?_eq_some_iff.1 R.hx).1]
  · simp [mvS, setP, setG, (List.getElem?_eq_some_iff.1 R.hy).1]
theorem coreM_mv (R : Run1 σ p g x y) : coreM (mvS σ p g x y) = { coreM σ with gs := (coreM σ).gs.set g (cg1 2 y).mv } := by
  unfold coreM mvS setP setG
  simp only
  congr 1
  have := zipWith_set (f := cg1) (a := σ.st) (b := σ.gs) (n := g) (s := 2) (t := y.mv)
  rw [set_id R.hst] at this
  exact this
/-- It goes on with another stack, or at another place. -/
theorem InvK.setg (h : InvK 0 0 σ) (R : Run1 σ p g x y) {y' : Gor} (h1 : y'.stack.length = 16) (h2 : y'.f = y.f) (h3 : (y'.pc : Int) ≤ 256 + σ.steps) (h4 : y'.count < 65536) : InvK 0 0 (setG σ g y') ∧ Run1 (setG σ g y') p g x y' := by
  refine ⟨⟨h.pf, ⟨h.off.ph, h.off.force, h.off.hl, h.off.bg, h.off.part⟩, h.hn, h.out, h.rl, h.pl, ?_, h.sl, h.wl, h.tm, ?_, h.ps, h.sch, h.cm, h.clk, h.stp⟩, ⟨R.hx, R.hg, R.hst, setG_upd R.hy⟩⟩
  · simp [setG, h.gl]
  · intro z hz
    rcases mem_set hz with hz | rfl
    · exact h.gs z hz
    · exact ⟨h1, by rw [h2]; exact (h.gs y (List.mem_of_getElem? R.hy)).2.1, by show (z.pc : Int) ≤ 256 + σ.steps - 0; omega, h4⟩
theorem coreM_setg (R : Run1 σ p g x y) {y' : Gor} : coreM (setG σ g y') = { coreM σ with gs := (coreM σ).gs.set g (cg1 2 y') } := by
  unfold coreM setG
  simp only
  congr 1
  have := zipWith_set (f := cg1) (a := σ.st) (b := σ.gs) (n := g) (s := 2) (t := y')
  rw [set_id R.hst] at this
  exact this
theorem InvK.cmt (h : InvK 0 0 σ) (hc : (σ.commits.length : Int) ≤ σ.steps - 1) (cm : Cmt) : InvK 0 0 { σ with commits := σ.commits ++ [cm] } := by
  refine ⟨h.pf, ⟨h.off.ph, h.off.force, h.off.hl, h.off.bg, h.off.part⟩, h.hn, h.out, h.rl, h.pl, h.gl, h.sl, h.wl, h.tm, h.gs, h.ps, h.sch, ?_, h.clk, h.stp⟩
  show ((σ.commits ++ [cm]).length : Int) ≤ σ.steps - 0
  rw [List.length_append]
  simp only [List.length_cons, List.length_nil]
  omega
/-- It stops. -/
theorem InvK.stop (h : InvK 0 0 σ) (R : Run1 σ p g x y) {to : Int} {ws : List (List Int)} (ht : to = 1 ∨ to = 3 ∨ to = 5) (hwl : ws.length = 32) (hws : (ws.flatten).Perm (if to = 3 then (g : Int) :: σ.waits.flatten else σ.waits.flatten)) :
    InvK 0 0 (toF { σ with waits := ws } p g x to) := by
  have hb := h.ps x (List.mem_of_getElem? R.hx)
  have hpl := (List.getElem?_eq_some_iff.1 R.hx).1
  have h1 := h.sch.stop (p := p) (n := g) (t := to) (by simp [R.hx, R.hg]) R.hst ht
  have h2 : to ≠ 2 := by omega
  have e : ∀ (τ : MS), ((setP (mvF τ g to) p { x with g := -1 }).ps.map (·.g)) = (τ.ps.map (·.g)).set p (-1) := fun τ => by simp [setP, mvF, List.map_set]
  unfold toF
  rw [if_neg h2]
  split
  · rename_i h3
    subst h3
    rw [if_pos rfl, if_neg (by decide)] at h1
    rw [if_neg (by decide)] at hws
    refine ⟨h.pf, ⟨h.off.ph, h.off.force, h.off.hl, h.off.bg, h.off.part⟩, h.hn, h.out, ?_, ?_, ?_, ?_, hwl, h.tm, h.gs, ?_, ?_, h.cm, h.clk, h.stp⟩
    · simp [setP, readyF, mvF, h.rl]
    · simpa [setP, readyF, mvF] using h.pl
    · simp [setP, readyF, mvF, h.gl]
    · simpa [setP, readyF, mvF] using h.sl
    · intro z hz
      rcases mem_set hz with hz | rfl
      · exact h.ps z hz
      · exact hb
    · have h4 := q_ready (σ := setP (mvF { σ with waits := ws } g 1) p { x with g := -1 }) (p := p) (g := (g : Int)) (by show p < σ.rows.length; rw [h.rl]; exact hpl)
      show SchI _ ((setP (mvF { σ with waits := ws } g 1) p { x with g := -1 }).ps.map (·.g)) _ _
      rw [e]
      exact h1.perm h4.symm hws.symm
  · rename_i h3
    rw [if_neg h3] at h1
    refine ⟨h.pf, ⟨h.off.ph, h.off.force, h.off.hl, h.off.bg, h.off.part⟩, h.hn, h.out, ?_, ?_, ?_, ?_, hwl, h.tm, h.gs, ?_, ?_, h.cm, h.clk, h.stp⟩
    · simp [setP, readyF, mvF, h.rl]
    · simpa [setP, readyF, mvF] using h.pl
    · simp [setP, readyF, mvF, h.gl]
    · simpa [setP, readyF, mvF] using h.sl
    · intro z hz
      rcases mem_set hz with hz | rfl
      · exact h.ps z hz
      · exact hb
    · rw [e]
      exact h1.perm (List.Perm.refl _) hws.symm
theorem coreM_stop (R : Run1 σ p g x y) {to : Int} {ws : List (List Int)} (ht : to = 1 ∨ to = 3 ∨ to = 5) : coreM (toF { σ with waits := ws } p g x to) = { coreM σ with gs := (coreM σ).gs.set g (cg1 to y), waits := ws } := by
  have h2 : to ≠ 2 := by omega
  have h0 := zipWith_set (f := cg1) (a := σ.st) (b := σ.gs) (n := g) (s := to) (t := y)
  rw [set_id R.hy] at h0
  unfold toF
  rw [if_neg h2]
  split
  · rename_i h3
    subst h3
    unfold coreM setP mvF readyF
    simp only
    rw [h0]
  · unfold coreM setP mvF
    simp only
    rw [h0]
end
end Go.E
/- An instruction of the plain kind. -/
set_option linter.unusedVariables false
set_option linter.unusedSimpArgs false
set_option maxRecDepth 10000
namespace Go.E
open Go Go.Proofs

section
variable {σ : MS} {p g : Nat} {x : Prc} {y : Gor}
theorem stk0_len (v : Int) : (stk0 v).length = 16 := by simp [stk0]
theorem InvK.spawn (h : InvK 0 0 σ) (R : Run1 σ p g x y) {f : Nat} {v : Int} (hf : f < σ.fs.length) (hl : σ.st.length < 1024) : InvK 0 0 (spawnF σ p f v) ∧ Run1 (spawnF σ p f v) p g x y := by
  have hpl := (List.getElem?_eq_some_iff.1 R.hx).1
  have hgl := (List.getElem?_eq_some_iff.1 R.hy).1
  have hsl := st_lt R.hst
  refine ⟨⟨h.pf, ⟨h.off.ph, h.off.force, h.off.hl, h.off.bg, h.off.part⟩, h.hn, h.out, ?_, h.pl, ?_, ?_, h.wl, h.tm, ?_, h.ps, ?_, h.cm, h.clk, h.stp⟩, ⟨R.hx, R.hg, ?_, ?_⟩⟩
  · simp [spawnF, readyF, h.rl]
  · simp [spawnF, readyF, h.gl]
  · simp [spawnF, readyF]; omega
  · intro z hz
    rcases List.mem_append.1 hz with hz | hz
    · exact h.gs z hz
    · simp at hz
      subst hz
      have := h.stp
      refine ⟨stk0_len v, hf, ?_, by show 0 < 65536; omega⟩
      show ((0 : Nat) : Int) ≤ 256 + σ.steps - 0
      omega
  · have h1 := h.sch.spawn
    have h4 := q_ready (σ := { σ with st := σ.st ++ [1], gs := σ.gs ++ [⟨f, 0, 0, stk0 v, 0, 0⟩] }) (p := p) (g := (σ.st.length : Int)) (by show p < σ.rows.length; rw [h.rl]; exact hpl)
    exact h1.perm h4.symm (List.Perm.refl _)
  · show (σ.st ++ [1])[g]? = _
    rw [List.getElem?_append_left hsl]; exact R.hst
  · show (σ.gs ++ [(⟨f, 0, 0, stk0 v, 0, 0⟩ : Gor)])[g]? = _
    rw [List.getElem?_append_left hgl]; exact R.hy
theorem coreM_spawn {f : Nat} {v : Int} (hl : σ.gs.length = σ.st.length) : coreM (spawnF σ p f v) = { coreM σ with gs := (coreM σ).gs ++ [⟨1, f, 0, 0, stk0 v⟩] } := by
  unfold coreM spawnF readyF
  simp only
  congr 1
  rw [List.zipWith_append hl.symm]
  rfl
theorem coreM_len (hl : σ.gs.length = σ.st.length) : (coreM σ).gs.length = σ.st.length := by
  show (List.zipWith cg1 σ.st σ.gs).length = _
  rw [List.length_zipWith, hl, Nat.min_self]
theorem zipWith_mod {st : List Int} {gs : List Gor} {k : Nat} (hk : st[k]? = some 3) : List.zipWith cg1 (st.set k 1) gs = (List.zipWith cg1 st gs).modify k (fun y => { y with st := 1 }) := by
  refine List.ext_getElem? fun m => ?_
  rw [List.getElem?_modify, List.getElem?_zipWith, List.getElem?_zipWith]
  by_cases hm : k = m
  · subst hm
    rw [st_set_at hk, hk]
    cases gs[k]? with
    | none => rfl
    | some y => simp [cg1]
  · rw [List.getElem?_set_ne hm]
    cases st[m]? with
    | none => rfl
    | some s =>
      cases gs[m]? with
      | none => rfl
      | some y => simp [hm]
theorem InvK.wake (h : InvK 0 0 σ) (R : Run1 σ p g x y) {k : Nat} {a : Nat} {r : List Int} (ha : σ.waits[a]? = some ((k : Int) :: r)) :
    InvK 0 0 (readyF (mvF { σ with waits := σ.waits.set a r } k 1) p k) ∧ Run1 (readyF (mvF { σ with waits := σ.waits.set a r } k 1) p k) p g x y ∧ σ.st[k]? = some 3 := by
  have hpl := (List.getElem?_eq_some_iff.1 R.hx).1
  have hW : σ.waits.flatten.Perm ((k : Int) :: (σ.waits.set a r).flatten) := by
    have h1 := flat_set_perm (r' := r) ha
    refine perm_cancel (c := r) ?_
    rw [List.cons_append]
    refine h1.symm.trans ?_
    exact List.perm_middle
  obtain ⟨h1, h2⟩ := (h.sch.perm (List.Perm.refl _) hW).wake
  refine ⟨⟨h.pf, ⟨h.off.ph, h.off.force, h.off.hl, h.off.bg, h.off.part⟩, h.hn, h.out, ?_, h.pl, ?_, ?_, ?_, h.tm, h.gs, h.ps, ?_, h.cm, h.clk, h.stp⟩, ⟨R.hx, R.hg, ?_, R.hy⟩, h2⟩
  · simp [readyF, mvF, h.rl]
  · simp [readyF, mvF, h.gl]
  · simpa [readyF, mvF] using h.sl
  · simpa [readyF, mvF] using h.wl
  · have h4 := q_ready (σ := mvF { σ with waits := σ.waits.set a r } k 1) (p := p) (g := (k : Int)) (by show p < σ.rows.length; rw [h.rl]; exact hpl)
    exact h1.perm h4.symm (List.Perm.refl _)
  · exact st_set_ne h2 R.hst (by decide)
theorem coreM_wake {k a : Nat} {r : List Int} (hk : σ.st[k]? = some 3) : coreM (readyF (mvF { σ with waits := σ.waits.set a r } k 1) p k) = { coreM σ with gs := (coreM σ).gs.modify k (fun y => { y with st := 1 }), waits := σ.waits.set a r } := by
  unfold coreM readyF mvF
  simp only
  rw [zipWith_mod hk]
theorem w_in {σ : MS} (h : InvK 0 0 σ) {a : Nat} {v : Int} {r : List Int} (ha : σ.waits[a]? = some (v :: r)) : ∃ k : Nat, v = k ∧ σ.st[k]? = some 3 :=
  h.sch.w v (List.mem_flatten.2 ⟨_, List.mem_of_getElem? ha, by simp⟩)
theorem waits_get {σ : MS} (h : σ.waits.length = 32) {a : Nat} (ha : a < 32) : σ.waits[a]? = some (σ.waits.getD a []) := by
  rw [List.getD_eq_getElem?_getD, List.getElem?_eq_getElem (by omega)]; rfl
theorem flat_mem_len {l : List Int} {ws : List (List Int)} (h : l ∈ ws) : l.length ≤ ws.flatten.length := (List.sublist_flatten_of_mem h).length_le
theorem w_len {σ : MS} (h : InvK 0 0 σ) {l : List Int} (hl : l ∈ σ.waits) : l.length ≤ 1024 := by
  have h1 := flat_mem_len hl
  have h2 := h.sch.wlen
  have h3 := h.sl
  omega
theorem common_len {a c : Int} {σ : MS} (h : InvK a c σ) : σ.common.length ≤ 1024 := by
  have h2 := h.sch.qlen
  have h3 := h.sl
  unfold queued at h2
  rw [List.length_append] at h2
  omega
theorem row_len {a c : Int} {σ : MS} (h : InvK a c σ) {p : Nat} (hp : p < σ.rows.length) : (row σ p).length ≤ 1024 := by
  have h2 := h.sch.qlen
  have h3 := h.sl
  unfold queued at h2
  rw [List.length_append] at h2
  have hm : row σ p ∈ σ.rows := by
    unfold row
    rw [List.getD_eq_getElem?_getD, List.getElem?_eq_getElem hp]
    exact List.getElem_mem hp
  have h4 := flat_mem_len hm
  omega
theorem not_waits {σ : MS} (h : InvK 0 0 σ) {g : Nat} (hg : σ.st[g]? = some 2) : ∀ l ∈ σ.waits, (g : Int) ∉ l := by
  intro l hl hm
  obtain ⟨n, h1, h2⟩ := h.sch.w g (List.mem_flatten.2 ⟨l, hl, hm⟩)
  have : g = n := by omega
  subst this; rw [hg] at h2; cases h2
end
end Go.E
/- An instruction of the plain kind, whole. -/
set_option linter.unusedVariables false
set_option linter.unusedSimpArgs false
set_option maxRecDepth 10000
namespace Go.E
open Go Go.Proofs

def x1F (x : Prc) : Prc := { x with row := x.row + 1 }
def exS (τ : MS) (p g : Nat) (x : Prc) (to : Int) (cm : Cmt) : MS := { toF τ p g (x1F x) to with commits := (toF τ p g (x1F x) to).commits ++ [cm] }
/-- What an instruction comes to. -/
structure ExOk (b p g : Nat) (σ : MS) (x : Prc) (y : Gor) (i : In) (τ : MS) (cm : Cmt) (to : Int) : Prop where
  clo : Clo b p g i (mvS σ p g x y) (cmtOf g y i 0 false) 0 τ cm to
  inv : InvK 0 0 (exS τ p g x to cm)
  core : cex (coreM σ) g (cg1 2 y) i = (coreM (exS τ p g x to cm), cm)
  hx : τ.ps[p]? = some (x1F x)
  ht : to = 2 ∨ ((to = 1 ∨ to = 3 ∨ to = 5) ∧ τ.st[g]? = some 2)
  rl : p < τ.rows.length
  cl : τ.common.length ≤ 2 ^ 30
  cml : τ.commits.length ≤ 2 ^ 30
  cms : τ.commits = σ.commits
  fs : (exS τ p g x to cm).fs = σ.fs
  steps : (exS τ p g x to cm).steps = σ.steps
  psl : (exS τ p g x to cm).ps.length = σ.ps.length
theorem toF_same {τ : MS} {p g : Nat} {x : Prc} {to : Int} : (toF τ p g x to).fs = τ.fs ∧ (toF τ p g x to).steps = τ.steps ∧ (toF τ p g x to).ps.length = τ.ps.length := by
  unfold toF
  split
  · exact ⟨rfl, rfl, rfl⟩
  · split <;> simp [readyF, setP, mvF]
section
variable {b p g : Nat} {σ τ : MS} {x : Prc} {y y' : Gor} {i : In} {cm : Cmt}
theorem ExOk.go (h : InvK 0 1 σ) (hs : σ.steps ≤ 2 ^ 25) (hR : Run1 σ p g x y) (clo : Clo b p g i (mvS σ p g x y) (cmtOf g y i 0 false) 0 τ cm 2) (hτ : InvK 0 0 τ) (R : Run1 τ p g (x1F x) y') (h1 : τ.commits = σ.commits) (h2 : τ.fs = σ.fs) (h3 : τ.steps = σ.steps) (h4 : τ.ps.length = σ.ps.length)
    (core : cex (coreM σ) g (cg1 2 y) i = (coreM τ, cm)) : ExOk b p g σ x y i τ cm 2 := by
  have hcm := h.cm
  have e : toF τ p g (x1F x) 2 = τ := by unfold toF; rw [if_pos rfl]
  have hpl := (List.getElem?_eq_some_iff.1 R.hx).1
  refine ⟨clo, ?_, ?_, R.hx, .inl rfl, by rw [hτ.rl]; exact hpl, by have := common_len hτ; omega, by rw [h1]; omega, h1, ?_, ?_, ?_⟩
  · unfold exS
    rw [e]
    exact hτ.cmt (by rw [h1, h3]; omega) cm
  · rw [core]; unfold exS; rw [e]; rfl
  · unfold exS; rw [e]; exact h2
  · unfold exS; rw [e]; exact h3
  · unfold exS; rw [e]; exact h4
theorem ExOk.halt {to : Int} {ws : List (List Int)} (h : InvK 0 1 σ) (hs : σ.steps ≤ 2 ^ 25) (hR : Run1 σ p g x y) (ht : to = 1 ∨ to = 3 ∨ to = 5) (hwl : ws.length = 32) (hws : (ws.flatten).Perm (if to = 3 then (g : Int) :: σ.waits.flatten else σ.waits.flatten))
    (clo : Clo b p g i (mvS σ p g x y) (cmtOf g y i 0 false) 0 { mvS σ p g x y with waits := ws } cm to)
    (core : cex (coreM σ) g (cg1 2 y) i = ({ coreM σ with gs := (coreM σ).gs.set g (cg1 to y.mv), waits := ws }, cm)) : ExOk b p g σ x y i { mvS σ p g x y with waits := ws } cm to := by
  have hcm := h.cm
  obtain ⟨h1, R1, hc1⟩ := h.mv hR
  have hpl := (List.getElem?_eq_some_iff.1 R1.hx).1
  have h2 := h1.stop R1 ht hwl hws
  have hsame := toF_same (τ := { mvS σ p g x y with waits := ws }) (p := p) (g := g) (x := x1F x) (to := to)
  have hcms := toF_commits (σ := { mvS σ p g x y with waits := ws }) (p := p) (g := g) (x := x1F x) (to := to)
  refine ⟨clo, ?_, ?_, R1.hx, .inr ⟨ht, R1.hst⟩, by show p < (mvS σ p g x y).rows.length; rw [h1.rl]; exact hpl, by have := common_len h1; show (mvS σ p g x y).common.length ≤ _; omega, by show σ.commits.length ≤ _; omega, rfl, ?_, ?_, ?_⟩
  · unfold exS
    refine h2.cmt ?_ cm
    rw [show (toF { mvS σ p g x y with waits := ws } p g { x with row := x.row + 1 } to).commits = _ from hcms, show (toF { mvS σ p g x y with waits := ws } p g { x with row := x.row + 1 } to).steps = _ from hsame.2.1]
    exact hc1
  · rw [core]
    have e := coreM_stop R1 (to := to) (ws := ws) ht
    refine Prod.ext ?_ rfl
    show _ = coreM (toF { mvS σ p g x y with waits := ws } p g (x1F x) to)
    rw [show coreM (toF { mvS σ p g x y with waits := ws } p g (x1F x) to) = _ from e, coreM_mv hR]
    simp only [List.set_set]
  · unfold exS; exact hsame.1
  · unfold exS; exact hsame.2.1
  · unfold exS
    show (toF { mvS σ p g x y with waits := ws } p g (x1F x) to).ps.length = _
    rw [hsame.2.2]
    simp [mvS, setP, setG]
/-- Every plain instruction. -/
theorem ExOk.end_ {ia ib ic : Nat} (h : InvK 0 1 σ) (hs : σ.steps ≤ 2 ^ 25) (R : Run1 σ p g x y) : ∃ τ cm to, ExOk b p g σ x y ⟨0, ia, ib, ic⟩ τ cm to :=
  ⟨_, _, _, .halt h hs R (to := 5) (ws := σ.waits) (.inr (.inr rfl)) h.wl (List.Perm.refl _) (fun Q hgb => clo_end Q) rfl⟩
theorem ExOk.yield {ia ib ic : Nat} (h : InvK 0 1 σ) (hs : σ.steps ≤ 2 ^ 25) (R : Run1 σ p g x y) : ∃ τ cm to, ExOk b p g σ x y ⟨9, ia, ib, ic⟩ τ cm to :=
  ⟨_, _, _, .halt h hs R (to := 1) (ws := σ.waits) (.inl rfl) h.wl (List.Perm.refl _) (fun Q hgb => clo_yield Q) rfl⟩
theorem ExOk.fault {ia ib ic : Nat} (h : InvK 0 1 σ) (hs : σ.steps ≤ 2 ^ 25) (R : Run1 σ p g x y) (ha : ia < 16) (hb : ib < 16) : ∃ τ cm to, ExOk b p g σ x y ⟨2, ia, ib, ic⟩ τ cm to := by
  obtain ⟨h1, R1, hc1⟩ := h.mv R
  exact ⟨_, _, _, .halt h hs R (to := 5) (ws := σ.waits) (.inr (.inr rfl)) h.wl (List.Perm.refl _) (fun Q hgb => clo_dfault Q h.hn R1.hy hgb (h1.gs _ (List.mem_of_getElem? R1.hy)).1 ha hb) rfl⟩
theorem ExOk.wait {ia ib ic : Nat} (h : InvK 0 1 σ) (hs : σ.steps ≤ 2 ^ 25) (R : Run1 σ p g x y) (ha : ia < 32) : ∃ τ cm to, ExOk b p g σ x y ⟨11, ia, ib, ic⟩ τ cm to := by
  obtain ⟨h1, R1, hc1⟩ := h.mv R
  have hr := waits_get h.wl ha
  have hP : ((σ.waits.set ia (σ.waits.getD ia [] ++ [(g : Int)])).flatten).Perm ((g : Int) :: σ.waits.flatten) := by
    have h2 := flat_set_perm (r' := σ.waits.getD ia [] ++ [(g : Int)]) hr
    refine perm_cancel (c := σ.waits.getD ia []) (h2.trans ?_)
    rw [← List.append_assoc]
    exact List.perm_append_comm
  exact ⟨_, _, _, .halt h hs R (to := 3) (ws := σ.waits.set ia (σ.waits.getD ia [] ++ [(g : Int)])) (.inr (.inl rfl)) (by simp [h.wl]) (by rw [if_pos rfl]; exact hP)
    (fun Q hgb => clo_wait Q ha hr (fun l hl => by have := w_len h1 hl; omega) (not_waits h1 R1.hst)) rfl⟩
theorem ExOk.setg {i : In} {v : Int} {y' : Gor} (h : InvK 0 1 σ) (hs : σ.steps ≤ 2 ^ 25) (R : Run1 σ p g x y) (h1 : y'.stack.length = 16) (h2 : y'.f = y.f) (h3 : (y'.pc : Int) ≤ 256 + σ.steps) (h4 : y'.count < 65536)
    (clo : Clo b p g i (mvS σ p g x y) (cmtOf g y i 0 false) 0 (setG (mvS σ p g x y) g y') (cmtOf g y i v false) 2) (core : cex (coreM σ) g (cg1 2 y) i = cOk (coreM σ) g (cg1 2 y) i (cg1 2 y') v) : ∃ τ cm to, ExOk b p g σ x y i τ cm to := by
  obtain ⟨k1, R1, hc1⟩ := h.mv R
  obtain ⟨k2, R2⟩ := k1.setg R1 (y' := y') h1 h2 h3 h4
  refine ⟨_, _, _, .go h hs R clo k2 R2 rfl rfl rfl (by simp [setG, mvS, setP]) ?_⟩
  rw [core, coreM_setg R1, coreM_mv R]
  unfold cOk
  simp only [List.set_set]
  rfl
theorem ExOk.keep {i : In} {v : Int} (h : InvK 0 1 σ) (hs : σ.steps ≤ 2 ^ 25) (R : Run1 σ p g x y)
    (clo : Clo b p g i (mvS σ p g x y) (cmtOf g y i 0 false) 0 (mvS σ p g x y) (cmtOf g y i v false) 2) (core : cex (coreM σ) g (cg1 2 y) i = cOk (coreM σ) g (cg1 2 y) i (cg1 2 y).mv v) : ∃ τ cm to, ExOk b p g σ x y i τ cm to := by
  obtain ⟨k1, R1, hc1⟩ := h.mv R
  refine ⟨_, _, _, .go h hs R clo k1 R1 rfl rfl rfl (by simp [setG, mvS, setP]) ?_⟩
  rw [core, coreM_mv R]
  rfl
theorem ExOk.move {ia ib ic : Nat} (h : InvK 0 1 σ) (hs : σ.steps ≤ 2 ^ 25) (R : Run1 σ p g x y) (ha : ia < 16) (hb : ib < 16) : ∃ τ cm to, ExOk b p g σ x y ⟨4, ia, ib, ic⟩ τ cm to := by
  obtain ⟨k1, R1, hc1⟩ := h.mv R
  have hgy := k1.gs _ (List.mem_of_getElem? R1.hy)
  refine ExOk.setg (y' := { y.mv with stack := y.mv.stack.set ia (stk y.mv ib) }) h hs R (by simp; exact hgy.1) rfl (by have := hgy.2.2.1; show ((y.pc + 1 : Nat) : Int) ≤ _; have e : y.mv.pc = y.pc + 1 := rfl; rw [e] at this; have : (mvS σ p g x y).steps = σ.steps := rfl; omega) hgy.2.2.2 (fun Q hgb => ?_) rfl
  exact clo_data Q ⟨by omega, by omega⟩ (data_move Q R1.hy hgb hgy.1 rfl rfl ha hb)
theorem ExOk.nil {ia ib ic : Nat} (h : InvK 0 1 σ) (hs : σ.steps ≤ 2 ^ 25) (R : Run1 σ p g x y) (ha : ia < 16) : ∃ τ cm to, ExOk b p g σ x y ⟨5, ia, ib, ic⟩ τ cm to := by
  obtain ⟨k1, R1, hc1⟩ := h.mv R
  have hgy := k1.gs _ (List.mem_of_getElem? R1.hy)
  refine ExOk.setg (y' := { y.mv with stack := y.mv.stack.set ia 0 }) h hs R (by simp; exact hgy.1) rfl (by have := hgy.2.2.1; show ((y.pc + 1 : Nat) : Int) ≤ _; have e : y.mv.pc = y.pc + 1 := rfl; rw [e] at this; have : (mvS σ p g x y).steps = σ.steps := rfl; omega) hgy.2.2.2 (fun Q hgb => ?_) rfl
  exact clo_data Q ⟨by omega, by omega⟩ (data_nil Q R1.hy hgb hgy.1 rfl ha)
theorem ExOk.jump {ia ib ic : Nat} (h : InvK 0 1 σ) (hs : σ.steps ≤ 2 ^ 25) (R : Run1 σ p g x y) (ha : ia < 256) : ∃ τ cm to, ExOk b p g σ x y ⟨14, ia, ib, ic⟩ τ cm to := by
  obtain ⟨k1, R1, hc1⟩ := h.mv R
  have hgy := k1.gs _ (List.mem_of_getElem? R1.hy)
  have := h.stp
  refine ExOk.setg (y' := { y.mv with pc := ia }) h hs R hgy.1 rfl (by show (ia : Int) ≤ _; omega) hgy.2.2.2 (fun Q hgb => ?_) rfl
  exact clo_control Q (by omega) (control_jump Q R1.hy hgb hgy.1 rfl)
theorem ExOk.count {ia ib ic : Nat} (h : InvK 0 1 σ) (hs : σ.steps ≤ 2 ^ 25) (R : Run1 σ p g x y) (ha : ia < 256) (hb : ib < 256) : ∃ τ cm to, ExOk b p g σ x y ⟨16, ia, ib, ic⟩ τ cm to := by
  obtain ⟨k1, R1, hc1⟩ := h.mv R
  have hgy := k1.gs _ (List.mem_of_getElem? R1.hy)
  refine ExOk.setg (y' := { y.mv with count := 256 * ia + ib }) h hs R hgy.1 rfl (by have := hgy.2.2.1; show ((y.pc + 1 : Nat) : Int) ≤ _; have e : y.mv.pc = y.pc + 1 := rfl; rw [e] at this; have : (mvS σ p g x y).steps = σ.steps := rfl; omega) (by show 256 * ia + ib < 65536; omega) (fun Q hgb => ?_) rfl
  exact clo_control Q (by omega) (control_count Q R1.hy hgb hgy.1 rfl rfl ha hb)
theorem ExOk.loop {ia ib ic : Nat} (h : InvK 0 1 σ) (hs : σ.steps ≤ 2 ^ 25) (R : Run1 σ p g x y) (ha : ia < 256) : ∃ τ cm to, ExOk b p g σ x y ⟨17, ia, ib, ic⟩ τ cm to := by
  obtain ⟨k1, R1, hc1⟩ := h.mv R
  have hgy := k1.gs _ (List.mem_of_getElem? R1.hy)
  have := h.stp
  by_cases h0 : 0 < y.count
  · refine ExOk.setg (v := 0) (y' := { y.mv with count := y.count - 1, pc := ia }) h hs R hgy.1 rfl (by show (ia : Int) ≤ _; omega) (by have := hgy.2.2.2; show y.count - 1 < 65536; have e : y.mv.count = y.count := rfl; omega) (fun Q hgb => ?_) ?_
    · have := control_loop (p := p) (ia := ia) (ib := ib) (ic := ic) Q R1.hy hgb hgy.1 rfl hgy.2.2.2
      rw [if_pos (show 0 < y.mv.count from h0)] at this
      exact clo_control Q (by omega) this
    · show cOk _ _ _ _ (if 0 < (cg1 2 y).count then _ else _) _ = _
      rw [if_pos (show 0 < (cg1 2 y).count from h0)]; rfl
  · refine ExOk.keep (v := 0) h hs R (fun Q hgb => ?_) ?_
    · have := control_loop (p := p) (ia := ia) (ib := ib) (ic := ic) Q R1.hy hgb hgy.1 rfl hgy.2.2.2
      rw [if_neg (show ¬ 0 < y.mv.count from h0)] at this
      exact clo_control Q (by omega) this
    · show cOk _ _ _ _ (if 0 < (cg1 2 y).count then _ else _) _ = _
      rw [if_neg (show ¬ 0 < (cg1 2 y).count from h0)]
theorem ExOk.wake {ia ib ic : Nat} (h : InvK 0 1 σ) (hs : σ.steps ≤ 2 ^ 25) (R : Run1 σ p g x y) (ha : ia < 32) : ∃ τ cm to, ExOk b p g σ x y ⟨12, ia, ib, ic⟩ τ cm to := by
  obtain ⟨k1, R1, hc1⟩ := h.mv R
  have hr := waits_get h.wl ha
  cases hw : σ.waits.getD ia [] with
  | nil =>
    rw [hw] at hr
    refine ExOk.keep (v := -1) h hs R (fun Q hgb => clo_control Q (by omega) (control_wake0 Q rfl ha hr)) ?_
    show (match σ.waits.getD ia [] with | [] => _ | k :: r => _) = _
    rw [hw]
  | cons k r =>
    rw [hw] at hr
    obtain ⟨n, rfl, hn⟩ := w_in k1 (v := k) hr
    obtain ⟨k2, R2, hn2⟩ := k1.wake R1 (k := n) hr
    have hpl := (List.getElem?_eq_some_iff.1 R1.hx).1
    refine ⟨_, cmtOf g y ⟨12, ia, ib, ic⟩ n false, _, .go h hs R (fun Q hgb => clo_control Q (by omega) (control_wake Q rfl ha hr ?_ hn2 (by rw [k1.rl]; exact hpl) (by have := common_len k1; omega))) k2 R2 rfl rfl rfl (by simp [readyF, mvF, setG, mvS, setP]) ?_⟩
    · have := w_len k1 (List.mem_of_getElem? hr)
      simp at this
      omega
    · show (match σ.waits.getD ia [] with | [] => _ | k :: r => _) = _
      rw [hw, coreM_wake hn2, coreM_mv R]
      simp only [Int.toNat_natCast]
      rfl
theorem ExOk.spawn {ia ib ic : Nat} (h : InvK 0 1 σ) (hs : σ.steps ≤ 2 ^ 25) (R : Run1 σ p g x y) (ha : ia < σ.fs.length) (hb : ib < 16) : ∃ τ cm to, ExOk b p g σ x y ⟨8, ia, ib, ic⟩ τ cm to := by
  obtain ⟨k1, R1, hc1⟩ := h.mv R
  have hgy := k1.gs _ (List.mem_of_getElem? R1.hy)
  have hcl := coreM_len h.gl
  have hpl := (List.getElem?_eq_some_iff.1 R1.hx).1
  have hsl := h.sl
  by_cases h0 : σ.st.length < 1024
  · obtain ⟨k2, R2⟩ := k1.spawn R1 (f := ia) (v := stk y.mv ib) ha h0
    refine ⟨_, cmtOf g y ⟨8, ia, ib, ic⟩ σ.st.length false, _, .go h hs R (fun Q hgb => clo_control Q (by omega) (control_spawn (σ := mvS σ p g x y) Q R1.hy hgb hgy.1 rfl rfl hb (show (mvS σ p g x y).st.length < 1024 from h0) k1.gl (by rw [k1.rl]; exact hpl) (by have := common_len k1; omega) (by have := h.off.ph; show σ.ph.phase ≠ 1; omega))) k2 R2 rfl rfl rfl (by simp [spawnF, readyF, mvF, setG, mvS, setP]) ?_⟩
    show (if (coreM σ).gs.length < 1024 then _ else _) = _
    rw [if_pos (by omega), coreM_spawn k1.gl, coreM_mv R, hcl]
    rfl
  · refine ⟨_, _, _, .halt (cm := cmtOf g y ⟨8, ia, ib, ic⟩ 0 true) h hs R (to := 5) (ws := σ.waits) (.inr (.inr rfl)) h.wl (List.Perm.refl _) (fun Q hgb => clo_fault Q (by omega) (control_full Q R1.hy hgb hgy.1 rfl rfl hb (by show σ.st.length = 1024; omega))) ?_⟩
    show (if (coreM σ).gs.length < 1024 then _ else _) = _
    rw [if_neg (by omega)]
    rfl
theorem ExOk.any (h : InvK 0 1 σ) (hs : σ.steps ≤ 2 ^ 25) (R : Run1 σ p g x y) (hi : plainI σ.fs.length i) : ∃ τ cm to, ExOk b p g σ x y i τ cm to := by
  obtain ⟨o, ia, ib, ic⟩ := i
  rcases hi with hi | hi | hi | hi | hi | hi | hi | hi | hi | hi | hi
  · cases hi; exact ExOk.end_ h hs R
  · cases hi; exact ExOk.yield h hs R
  · obtain ⟨h1, h2⟩ := hi; cases h1; exact ExOk.loop h hs R h2
  · obtain ⟨h1, h2, h3, h4⟩ := hi; cases h1; exact ExOk.fault h hs R h2 h3
  · obtain ⟨h1, h2, h3⟩ := hi; cases h1; exact ExOk.move h hs R h2 h3
  · obtain ⟨h1, h2⟩ := hi; cases h1; exact ExOk.nil h hs R h2
  · obtain ⟨h1, h2, h3⟩ := hi; cases h1; exact ExOk.spawn h hs R h2 h3
  · obtain ⟨h1, h2⟩ := hi; cases h1; exact ExOk.wait h hs R h2
  · obtain ⟨h1, h2⟩ := hi; cases h1; exact ExOk.wake h hs R h2
  · obtain ⟨h1, h2⟩ := hi; cases h1; exact ExOk.jump h hs R h2
  · obtain ⟨h1, h2, h3⟩ := hi; cases h1; exact ExOk.count h hs R h2 h3
end
end Go.E
