/- Who stands in a queue. -/
import Derived.Test.YtnbekdcepnfpaaaGreatDoorG23
set_option linter.unusedVariables false
set_option linter.unusedSimpArgs false
set_option maxRecDepth 10000
namespace Go.E
open Go Go.Proofs

def queued (σ : MS) : List Int := σ.rows.flatten ++ σ.common
theorem flat_set_perm {α : Type} : ∀ {rows : List (List α)} {p : Nat} {r r' : List α}, rows[p]? = some r → ((rows.set p r').flatten ++ r).Perm (rows.flatten ++ r')
  | [], p, r, r', h => by simp at h
  | x :: rows, 0, r, r', h => by
    simp at h
    subst h
    simp only [List.set_cons_zero, List.flatten_cons]
    have h1 : ((r' ++ rows.flatten) ++ x).Perm (x ++ (r' ++ rows.flatten)) := List.perm_append_comm
    refine h1.trans ?_
    rw [List.append_assoc]
    exact List.Perm.append_left x List.perm_append_comm
  | x :: rows, p + 1, r, r', h => by
    simp only [List.set_cons_succ, List.flatten_cons, List.append_assoc]
    exact List.Perm.append_left x (flat_set_perm (by simpa using h))
theorem rput_perm (r : List Int) (g : Int) : ((rput r g).1 ++ (rput r g).2).Perm (g :: r) := by
  unfold rput
  split
  · simp only [List.append_nil]
    exact List.perm_append_comm
  · simp only
    have h1 : (r.drop 128 ++ (r.take 128 ++ [g])).Perm ((r.take 128 ++ [g]) ++ r.drop 128) := List.perm_append_comm
    refine h1.trans ?_
    have h2 : (r.take 128 ++ [g]).Perm (g :: r.take 128) := List.perm_append_comm
    refine (List.Perm.append_right _ h2).trans ?_
    rw [List.cons_append, List.take_append_drop]
theorem perm_cancel {α : Type} [DecidableEq α] {a b c : List α} (h : (a ++ c).Perm (b ++ c)) : a.Perm b := (List.perm_append_right_iff c).1 h
theorem q_ready {σ : MS} {p : Nat} {g : Int} (hp : p < σ.rows.length) : (queued (readyF σ p g)).Perm (g :: queued σ) := by
  have hr : σ.rows[p]? = some (row σ p) := by simp [row, List.getD_eq_getElem?_getD, hp]
  have h1 := flat_set_perm (r' := (rput (row σ p) g).1) hr
  have h2 := rput_perm (row σ p) g
  unfold queued readyF
  simp only
  refine perm_cancel (c := row σ p) ?_
  have h3 : ((σ.rows.set p (rput (row σ p) g).1).flatten ++ (σ.common ++ (rput (row σ p) g).2) ++ row σ p).Perm (((σ.rows.set p (rput (row σ p) g).1).flatten ++ row σ p) ++ (σ.common ++ (rput (row σ p) g).2)) := by
    simp only [List.append_assoc]
    refine List.Perm.append_left _ ?_
    rw [← List.append_assoc]
    exact List.perm_append_comm
  refine h3.trans ((List.Perm.append_right _ h1).trans ?_)
  have h4 : ((σ.rows.flatten ++ (rput (row σ p) g).1) ++ (σ.common ++ (rput (row σ p) g).2)).Perm ((σ.rows.flatten ++ σ.common) ++ ((rput (row σ p) g).1 ++ (rput (row σ p) g).2)) := by
    rw [List.append_assoc, List.append_assoc]
    refine List.Perm.append_left _ ?_
    rw [← List.append_assoc, ← List.append_assoc]
    exact List.Perm.append_right _ List.perm_append_comm
  refine h4.trans ((List.Perm.append_left _ h2).trans ?_)
  exact List.perm_middle
theorem q_pick {rows rows' : List (List Int)} {common common' : List Int} {p : Nat} {t v g : Int} (h : PickR rows common p t v g rows' common') : (rows.flatten ++ common).Perm (g :: (rows'.flatten ++ common')) := by
  cases h with
  | fair h0 h1 h =>
    subst h
    exact List.perm_middle
  | @own r h =>
    have h1 := flat_set_perm (r' := r) h
    have h2 : (rows.flatten ++ r).Perm ((g :: (rows.set (p : Int).toNat r).flatten) ++ r) := by
      refine h1.symm.trans ?_
      exact List.perm_middle
    have := perm_cancel h2
    exact List.Perm.append_right _ this
  | @part t' n h0 hn h =>
    have h1 := flat_set_perm (r' := t') h0
    rw [List.append_nil] at h1
    have e : common = g :: (t' ++ common.drop n) := by
      rw [← List.cons_append, ← h, List.take_append_drop]
    have h2 : (rows.flatten ++ common).Perm (g :: (rows.flatten ++ (t' ++ common.drop n))) := by
      conv => lhs; rw [e]
      exact List.perm_middle
    refine h2.trans (List.Perm.cons _ ?_)
    rw [← List.append_assoc]
    exact List.Perm.append_right _ h1.symm
  | @steal o t' n h0 hc hv hne ho h =>
    have hpv : (p : Int).toNat ≠ v.toNat := by omega
    have h1 := flat_set_perm (r' := t') h0
    rw [List.append_nil] at h1
    have ho' : (rows.set (p : Int).toNat t')[v.toNat]? = some o := by rw [List.getElem?_set_ne hpv]; exact ho
    have h2 := flat_set_perm (r' := o.drop n) ho'
    refine List.Perm.append_right (l₁ := rows.flatten) (l₂ := g :: ((rows.set (p : Int).toNat t').set v.toNat (o.drop n)).flatten) _ ?_
    refine perm_cancel (c := o) ?_
    rw [List.cons_append]
    refine List.Perm.trans ?_ (List.Perm.cons _ h2.symm)
    have e : o = (g :: t') ++ o.drop n := by rw [← h, List.take_append_drop]
    have h3 : (rows.flatten ++ o).Perm (g :: (rows.flatten ++ t' ++ o.drop n)) := by
      conv => lhs; rw [e]
      rw [List.append_assoc]
      exact List.perm_middle
    refine h3.trans (List.Perm.cons _ ?_)
    exact List.Perm.append_right _ h1.symm
end Go.E
/- Each goroutine is in one place. -/
set_option linter.unusedVariables false
set_option linter.unusedSimpArgs false
set_option maxRecDepth 10000
namespace Go.E
open Go Go.Proofs

structure SchI (Q R W st : List Int) : Prop where
  q : ∀ v ∈ Q, ∃ n : Nat, v = n ∧ st[n]? = some 1
  qn : Q.Nodup
  r : ∀ (p : Nat) v, R[p]? = some v → v = -1 ∨ ∃ n : Nat, v = n ∧ st[n]? = some 2
  rn : ∀ (p p' : Nat) v, R[p]? = some v → R[p']? = some v → v = -1 ∨ p = p'
  w : ∀ v ∈ W, ∃ n : Nat, v = n ∧ st[n]? = some 3
  wn : W.Nodup
  sv : ∀ s ∈ st, s = 1 ∨ s = 2 ∨ s = 3 ∨ s = 5
theorem SchI.perm {Q Q' R W W' st : List Int} (h : SchI Q R W st) (hQ : Q.Perm Q') (hW : W.Perm W') : SchI Q' R W' st :=
  ⟨fun v hv => h.q v (hQ.mem_iff.2 hv), hQ.nodup_iff.1 h.qn, h.r, h.rn, fun v hv => h.w v (hW.mem_iff.2 hv), hW.nodup_iff.1 h.wn, h.sv⟩
theorem bound_len {l : List Int} {n : Nat} (hn : l.Nodup) (h : ∀ v ∈ l, ∃ k : Nat, v = k ∧ k < n) : l.length ≤ n := by
  have := hn.length_le_of_subset (l₂ := (List.range n).map Int.ofNat) (fun v hv => by
    obtain ⟨k, rfl, hk⟩ := h v hv
    exact List.mem_map.2 ⟨k, List.mem_range.2 hk, rfl⟩)
  simpa using this
theorem st_lt {st : List Int} {n : Nat} {s : Int} (h : st[n]? = some s) : n < st.length := (List.getElem?_eq_some_iff.1 h).1
theorem SchI.qlen {Q R W st : List Int} (h : SchI Q R W st) : Q.length ≤ st.length :=
  bound_len h.qn fun v hv => by obtain ⟨n, h1, h2⟩ := h.q v hv; exact ⟨n, h1, st_lt h2⟩
theorem SchI.wlen {Q R W st : List Int} (h : SchI Q R W st) : W.length ≤ st.length :=
  bound_len h.wn fun v hv => by obtain ⟨n, h1, h2⟩ := h.w v hv; exact ⟨n, h1, st_lt h2⟩
theorem st_set_ne {st : List Int} {n m : Nat} {s t u : Int} (h : st[n]? = some s) (hm : st[m]? = some u) (hne : u ≠ s) : (st.set n t)[m]? = some u := by
  rw [List.getElem?_set_ne (by rintro rfl; rw [h] at hm; cases hm; exact hne rfl)]; exact hm
theorem st_set_at {st : List Int} {n : Nat} {s t : Int} (h : st[n]? = some s) : (st.set n t)[n]? = some t := by
  rw [List.getElem?_set_self (st_lt h)]
theorem sv_set {st : List Int} {n : Nat} {t : Int} (h : ∀ s ∈ st, s = 1 ∨ s = 2 ∨ s = 3 ∨ s = 5) (ht : t = 1 ∨ t = 2 ∨ t = 3 ∨ t = 5) : ∀ s ∈ st.set n t, s = 1 ∨ s = 2 ∨ s = 3 ∨ s = 5 := by
  intro s hs
  rcases List.mem_or_eq_of_mem_set hs with hs | rfl
  · exact h s hs
  · exact ht
/-- One is taken out of a queue. -/
theorem SchI.take {Q R W st : List Int} {n p : Nat} (h : SchI ((n : Int) :: Q) R W st) (hp : R[p]? = some (-1)) : SchI Q (R.set p n) W (st.set n 2) := by
  have hn : st[n]? = some 1 := by
    obtain ⟨m, h1, h2⟩ := h.q n (by simp)
    have : n = m := by omega
    subst this; exact h2
  have hnq : (n : Int) ∉ Q := (List.nodup_cons.1 h.qn).1
  have hpl := (List.getElem?_eq_some_iff.1 hp).1
  refine ⟨fun v hv => ?_, (List.nodup_cons.1 h.qn).2, fun p' v hv => ?_, fun a c v ha hc => ?_, fun v hv => ?_, h.wn, sv_set h.sv (by simp)⟩
  · obtain ⟨m, h1, h2⟩ := h.q v (by simp [hv])
    refine ⟨m, h1, ?_⟩
    rw [List.getElem?_set_ne (by rintro rfl; exact hnq (by rw [← h1]; exact hv))]
    exact h2
  · rcases set_get hv with ⟨rfl, rfl⟩ | ⟨hne, hv⟩
    · exact .inr ⟨n, rfl, st_set_at hn⟩
    · refine (h.r p' v hv).imp id ?_
      rintro ⟨m, h1, h2⟩
      exact ⟨m, h1, st_set_ne hn h2 (by decide)⟩
  · have key : ∀ (a' : Nat), a' ≠ p → R[a']? = some (n : Int) → False := by
      intro a' ha' hr
      rcases h.r a' _ hr with h1 | ⟨m, h1, h2⟩
      · omega
      · have : n = m := by omega
        subst this; rw [hn] at h2; cases h2
    rcases set_get ha with ⟨rfl, rfl⟩ | ⟨hne, ha⟩
    · rcases set_get hc with ⟨rfl, _⟩ | ⟨hne', hc⟩
      · exact .inr rfl
      · exact (key c hne' hc).elim
    · rcases set_get hc with ⟨h1, h2⟩ | ⟨hne', hc⟩
      · exact (key a hne (h2 ▸ ha)).elim
      · exact h.rn a c v ha hc
  · obtain ⟨m, h1, h2⟩ := h.w v hv
    exact ⟨m, h1, st_set_ne hn h2 (by decide)⟩
/-- One that runs stops. -/
theorem SchI.stop {Q R W st : List Int} {n p : Nat} {t : Int} (h : SchI Q R W st) (hp : R[p]? = some (n : Int)) (hn : st[n]? = some 2) (ht : t = 1 ∨ t = 3 ∨ t = 5) :
    SchI (if t = 1 then (n : Int) :: Q else Q) (R.set p (-1)) (if t = 3 then (n : Int) :: W else W) (st.set n t) := by
  have q0 : ∀ v ∈ Q, ∃ m : Nat, v = m ∧ (st.set n t)[m]? = some 1 := fun v hv => by
    obtain ⟨m, h1, h2⟩ := h.q v hv
    exact ⟨m, h1, st_set_ne hn h2 (by decide)⟩
  have w0 : ∀ v ∈ W, ∃ m : Nat, v = m ∧ (st.set n t)[m]? = some 3 := fun v hv => by
    obtain ⟨m, h1, h2⟩ := h.w v hv
    exact ⟨m, h1, st_set_ne hn h2 (by decide)⟩
  have nq : (n : Int) ∉ Q := fun hv => by
    obtain ⟨m, h1, h2⟩ := h.q _ hv
    have : n = m := by omega
    subst this; rw [hn] at h2; cases h2
  have nw : (n : Int) ∉ W := fun hv => by
    obtain ⟨m, h1, h2⟩ := h.w _ hv
    have : n = m := by omega
    subst this; rw [hn] at h2; cases h2
  refine ⟨?_, ?_, fun p' v hv => ?_, fun a c v ha hc => ?_, ?_, ?_, sv_set h.sv (by omega)⟩
  · split
    · rename_i h1
      intro v hv
      rcases List.mem_cons.1 hv with rfl | hv
      · exact ⟨n, rfl, by rw [h1]; exact st_set_at hn⟩
      · exact q0 v hv
    · exact q0
  · split
    · exact List.nodup_cons.2 ⟨nq, h.qn⟩
    · exact h.qn
  · rcases set_get hv with ⟨rfl, rfl⟩ | ⟨hne, hv⟩
    · exact .inl rfl
    · rcases h.r p' v hv with h1 | ⟨m, h1, h2⟩
      · exact .inl h1
      · refine .inr ⟨m, h1, ?_⟩
        rw [List.getElem?_set_ne]
        · exact h2
        · rintro rfl
          rcases h.rn p p' _ hp (h1 ▸ hv) with h3 | h3
          · omega
          · exact hne h3.symm
  · rcases set_get ha with ⟨rfl, rfl⟩ | ⟨hne, ha⟩
    · exact .inl rfl
    · rcases set_get hc with ⟨rfl, rfl⟩ | ⟨hne', hc⟩
      · exact .inl rfl
      · exact h.rn a c v ha hc
  · split
    · rename_i h1
      intro v hv
      rcases List.mem_cons.1 hv with rfl | hv
      · exact ⟨n, rfl, by rw [h1]; exact st_set_at hn⟩
      · exact w0 v hv
    · exact w0
  · split
    · exact List.nodup_cons.2 ⟨nw, h.wn⟩
    · exact h.wn
/-- One that waits is woken. -/
theorem SchI.wake {Q R W st : List Int} {k : Nat} (h : SchI Q R ((k : Int) :: W) st) : SchI ((k : Int) :: Q) R W (st.set k 1) ∧ st[k]? = some 3 := by
  have hn : st[k]? = some 3 := by
    obtain ⟨m, h1, h2⟩ := h.w k (by simp)
    have : k = m := by omega
    subst this; exact h2
  refine ⟨⟨fun v hv => ?_, List.nodup_cons.2 ⟨fun hv => ?_, h.qn⟩, fun p' v hv => ?_, h.rn, fun v hv => ?_, (List.nodup_cons.1 h.wn).2, sv_set h.sv (by simp)⟩, hn⟩
  · rcases List.mem_cons.1 hv with rfl | hv
    · exact ⟨k, rfl, st_set_at hn⟩
    · obtain ⟨m, h1, h2⟩ := h.q v hv
      exact ⟨m, h1, st_set_ne hn h2 (by decide)⟩
  · obtain ⟨m, h1, h2⟩ := h.q _ hv
    have : k = m := by omega
    subst this; rw [hn] at h2; cases h2
  · refine (h.r p' v hv).imp id ?_
    rintro ⟨m, h1, h2⟩
    exact ⟨m, h1, st_set_ne hn h2 (by decide)⟩
  · obtain ⟨m, h1, h2⟩ := h.w v (by simp [hv])
    refine ⟨m, h1, ?_⟩
    rw [List.getElem?_set_ne (by rintro rfl; exact (List.nodup_cons.1 h.wn).1 (by rw [← h1]; exact hv))]
    exact h2
/-- One more is begun. -/
theorem SchI.spawn {Q R W st : List Int} (h : SchI Q R W st) : SchI ((st.length : Int) :: Q) R W (st ++ [1]) := by
  have up : ∀ {m : Nat} {s : Int}, st[m]? = some s → (st ++ [1])[m]? = some s := fun {m s} h => by rw [List.getElem?_append_left (st_lt h)]; exact h
  refine ⟨fun v hv => ?_, List.nodup_cons.2 ⟨fun hv => ?_, h.qn⟩, fun p' v hv => ?_, h.rn, fun v hv => ?_, h.wn, fun s hs => ?_⟩
  · rcases List.mem_cons.1 hv with rfl | hv
    · exact ⟨st.length, rfl, by simp⟩
    · obtain ⟨m, h1, h2⟩ := h.q v hv
      exact ⟨m, h1, up h2⟩
  · obtain ⟨m, h1, h2⟩ := h.q _ hv
    have := st_lt h2
    omega
  · refine (h.r p' v hv).imp id ?_
    rintro ⟨m, h1, h2⟩
    exact ⟨m, h1, up h2⟩
  · obtain ⟨m, h1, h2⟩ := h.w v hv
    exact ⟨m, h1, up h2⟩
  · rcases List.mem_append.1 hs with hs | hs
    · exact h.sv s hs
    · simp at hs; subst hs; exact .inl rfl
end Go.E
/- What a machine without a collector keeps. -/
set_option linter.unusedVariables false
set_option linter.unusedSimpArgs false
set_option maxRecDepth 10000
namespace Go.E
open Go Go.Proofs

/-- Instructions that make nothing and look at nothing. -/
def plainOp (o : Nat) : Prop := o = 0 ∨ o = 2 ∨ o = 4 ∨ o = 5 ∨ o = 8 ∨ o = 9 ∨ o = 11 ∨ o = 12 ∨ o = 14 ∨ o = 16 ∨ o = 17
def plainI (n : Nat) (i : In) : Prop :=
  (i.op = 0 ∨ i.op = 9 ∨ i.op = 17 ∧ i.a < 256 ∨ (i.op = 2 ∧ i.a < 16 ∧ i.b < 16 ∧ i.c < 256) ∨ (i.op = 4 ∧ i.a < 16 ∧ i.b < 16) ∨ (i.op = 5 ∧ i.a < 16) ∨ (i.op = 8 ∧ i.a < n ∧ i.b < 16) ∨ (i.op = 11 ∧ i.a < 32) ∨ (i.op = 12 ∧ i.a < 32) ∨ (i.op = 14 ∧ i.a < 256) ∨ (i.op = 16 ∧ i.a < 256 ∧ i.b < 256))
def plainP (fs : List (List In)) : Prop := 1 ≤ fs.length ∧ fs.length ≤ 16 ∧ ∀ l ∈ fs, ∀ i ∈ l, plainI fs.length i
def lenP (fs : List (List In)) : Prop := 1 ≤ fs.length ∧ fs.length ≤ 16
theorem plainP.len {fs : List (List In)} (h : plainP fs) : lenP fs := ⟨h.1, h.2.1⟩
theorem plainP.at {fs : List (List In)} (h : plainP fs) (f pc : Nat) : plainI fs.length (instAt fs f pc) := by
  unfold instAt
  by_cases hf : f < fs.length
  · rw [List.getD_eq_getElem?_getD, List.getElem?_eq_getElem hf]
    show plainI _ (((fs[f])[pc]?).getD _)
    by_cases hp : pc < (fs[f]).length
    · rw [List.getElem?_eq_getElem hp]
      exact h.2.2 _ (List.getElem_mem hf) _ (List.getElem_mem hp)
    · rw [List.getElem?_eq_none (by omega)]
      exact .inl rfl
  · have h0 : fs[f]? = none := List.getElem?_eq_none (by omega)
    rw [List.getD_eq_getElem?_getD, h0]
    exact .inl rfl
structure InvK (a c : Int) (σ : MS) : Prop where
  pf : lenP σ.fs
  off : OffS σ 0
  hn : HpNone σ.hp
  out : σ.out = false
  rl : σ.rows.length = σ.ps.length
  pl : 1 ≤ σ.ps.length ∧ σ.ps.length ≤ 64
  gl : σ.gs.length = σ.st.length
  sl : σ.st.length ≤ 1024
  wl : σ.waits.length = 32
  tm : σ.tim = []
  gs : ∀ y ∈ σ.gs, y.stack.length = 16 ∧ y.f < σ.fs.length ∧ (y.pc : Int) ≤ 256 + σ.steps - c ∧ y.count < 65536
  ps : ∀ x ∈ σ.ps, (0 ≤ x.row ∧ x.row ≤ σ.steps - c) ∧ (0 ≤ x.picks ∧ x.picks ≤ σ.steps - a) ∧ (0 ≤ x.passed ∧ x.passed ≤ σ.steps - a) ∧ (0 ≤ x.all ∧ x.all ≤ σ.steps) ∧ x.worked = 0
  sch : SchI (queued σ) (σ.ps.map (·.g)) σ.waits.flatten σ.st
  cm : (σ.commits.length : Int) ≤ σ.steps - c
  clk : 0 ≤ σ.clock ∧ σ.clock ≤ σ.steps * 1048576
  stp : 0 ≤ σ.steps
abbrev Inv (σ : MS) : Prop := InvK 0 0 σ
theorem InvK.weak {a c a' c' : Int} {σ : MS} (h : InvK a c σ) (ha : a' ≤ a) (hc : c' ≤ c) : InvK a' c' σ := by
  refine ⟨h.pf, h.off, h.hn, h.out, h.rl, h.pl, h.gl, h.sl, h.wl, h.tm, fun y hy => ?_, fun x hx => ?_, h.sch, ?_, h.clk, h.stp⟩
  · have := h.gs y hy
    exact ⟨this.1, this.2.1, by omega, this.2.2.2⟩
  · have := h.ps x hx
    omega
  · have := h.cm
    omega
/-- The core. -/
def cg1 (s : Int) (y : Gor) : CG := ⟨if s = 2 then 1 else s, y.f, y.pc, y.count, y.stack⟩
def coreM (σ : MS) : Core := ⟨List.zipWith cg1 σ.st σ.gs, σ.globals, σ.waits, [], 0, fun _ => none⟩
theorem inst_eq {fs : List (List In)} {f : Nat} {l : List In} {pc : Nat} (hl : fs[f]? = some l) : instAt fs f pc = (l[pc]?).getD ⟨0, 0, 0, 0⟩ := by
  unfold instAt
  rw [List.getD_eq_getElem?_getD, hl]; rfl

/-- Time goes on. -/
def tickS (σ : MS) (p : Nat) (x : Prc) (d : Int) : MS := { setP σ p { x with all := x.all + 1 } with freed := [], steps := σ.steps + 1, clock := σ.clock + d }
theorem mem_set {α : Type _} {l : List α} {i : Nat} {a x : α} (h : x ∈ l.set i a) : x ∈ l ∨ x = a := List.mem_or_eq_of_mem_set h
theorem InvK.tick {σ : MS} {p : Nat} {x : Prc} {d : Int} (h : Inv σ) (hx : σ.ps[p]? = some x) (hd : 0 ≤ d ∧ d ≤ 1048576) : InvK 1 1 (tickS σ p x d) := by
  have hb := h.ps x (List.mem_of_getElem? hx)
  have hs := h.stp
  refine ⟨h.pf, ⟨h.off.ph, h.off.force, h.off.hl, h.off.bg, h.off.part⟩, h.hn, h.out, ?_, ?_, h.gl, h.sl, h.wl, h.tm, ?_, ?_, ?_, ?_, ?_, ?_⟩
  · simp [tickS, setP, h.rl]
  · simpa [tickS, setP] using h.pl
  · intro y hy
    have := h.gs y hy
    refine ⟨this.1, this.2.1, ?_, this.2.2.2⟩
    show (y.pc : Int) ≤ 256 + (σ.steps + 1) - 1
    have := this.2.2.1
    omega
  · intro z hz
    rcases mem_set hz with hz | rfl
    · have := h.ps z hz
      show (0 ≤ z.row ∧ z.row ≤ σ.steps + 1 - 1) ∧ (0 ≤ z.picks ∧ z.picks ≤ σ.steps + 1 - 1) ∧ (0 ≤ z.passed ∧ z.passed ≤ σ.steps + 1 - 1) ∧ (0 ≤ z.all ∧ z.all ≤ σ.steps + 1) ∧ z.worked = 0
      omega
    · show (0 ≤ x.row ∧ x.row ≤ σ.steps + 1 - 1) ∧ (0 ≤ x.picks ∧ x.picks ≤ σ.steps + 1 - 1) ∧ (0 ≤ x.passed ∧ x.passed ≤ σ.steps + 1 - 1) ∧ (0 ≤ x.all + 1 ∧ x.all + 1 ≤ σ.steps + 1) ∧ x.worked = 0
      omega
  · have e : ((tickS σ p x d).ps.map (·.g)) = σ.ps.map (·.g) := set_same hx rfl
    rw [e]
    exact h.sch
  · show (σ.commits.length : Int) ≤ σ.steps + 1 - 1
    have := h.cm
    omega
  · show 0 ≤ σ.clock + d ∧ σ.clock + d ≤ (σ.steps + 1) * 1048576
    have := h.clk
    omega
  · show 0 ≤ σ.steps + 1
    omega
/-- The row that a P's goroutines make. -/
theorem ps_map_set {σ : MS} {p : Nat} {x : Prc} : (setP σ p x).ps.map (·.g) = (σ.ps.map (·.g)).set p x.g := by simp [setP, List.map_set]
theorem InvK.g2 {a c : Int} {σ : MS} (h : InvK a c σ) {p : Nat} {x : Prc} (hx : σ.ps[p]? = some x) (hg : x.g ≠ -1) : ∃ g : Nat, x.g = g ∧ σ.st[g]? = some 2 ∧ ∃ y, σ.gs[g]? = some y := by
  rcases h.sch.r p x.g (by simp [hx]) with h1 | ⟨n, h1, h2⟩
  · exact (hg h1).elim
  · have hl := st_lt h2
    exact ⟨n, h1, h2, σ.gs[n]'(by rw [h.gl]; exact hl), List.getElem?_eq_getElem _⟩
/-- A goroutine is put away. -/
theorem InvK.away {a c : Int} {σ : MS} (h : InvK a c σ) {p g : Nat} {x : Prc} (hx : σ.ps[p]? = some x) (hg : x.g = g) (hst : σ.st[g]? = some 2) : InvK a c (awayF σ p g x) := by
  have hpl := (List.getElem?_eq_some_iff.1 hx).1
  have hb := h.ps x (List.mem_of_getElem? hx)
  refine ⟨h.pf, ⟨h.off.ph, h.off.force, h.off.hl, h.off.bg, h.off.part⟩, h.hn, h.out, ?_, ?_, ?_, ?_, h.wl, h.tm, h.gs, ?_, ?_, h.cm, h.clk, h.stp⟩
  · simp [awayF, setP, readyF, mvF, h.rl]
  · simpa [awayF, setP, readyF, mvF] using h.pl
  · simp [awayF, setP, readyF, mvF, h.gl]
  · simpa [awayF, setP, readyF, mvF] using h.sl
  · intro z hz
    rcases mem_set hz with hz | rfl
    · exact h.ps z hz
    · exact hb
  · have h1 := h.sch.stop (p := p) (n := g) (t := 1) (by simp [hx, hg]) hst (.inl rfl)
    rw [if_pos rfl, if_neg (by decide)] at h1
    have e : ((awayF σ p g x).ps.map (·.g)) = (σ.ps.map (·.g)).set p (-1) := by simp [awayF, setP, readyF, mvF, List.map_set]
    rw [e]
    exact h1.perm (q_ready (σ := mvF σ g 1) (g := (g : Int)) (by show p < σ.rows.length; rw [h.rl]; exact hpl)).symm (List.Perm.refl _)
theorem coreM_away {σ : MS} {p g : Nat} {x : Prc} (hst : σ.st[g]? = some 2) : coreM (awayF σ p g x) = coreM σ := by
  unfold coreM awayF setP readyF mvF
  simp only
  congr 1
  refine List.ext_getElem? fun n => ?_
  rw [List.getElem?_zipWith, List.getElem?_zipWith]
  by_cases hn : n = g
  · subst hn
    rw [st_set_at hst, hst]
    cases σ.gs[n]? with
    | none => rfl
    | some y => rfl
  · rw [List.getElem?_set_ne (Ne.symm hn)]
end Go.E
/- A P takes one; an instruction is done. -/
set_option linter.unusedVariables false
set_option linter.unusedSimpArgs false
set_option maxRecDepth 10000
namespace Go.E
open Go Go.Proofs

theorem InvK.pick {a c : Int} {σ : MS} (h : InvK a c σ) {p : Nat} {t v g : Int} {rows' : List (List Int)} {common' : List Int} (hp : PickR σ.rows σ.common p t v g rows' common') :
    ∃ n : Nat, g = n ∧ σ.st[n]? = some 1 ∧ ∃ y, σ.gs[n]? = some y ∧ y.stack.length = 16 := by
  have hq := q_pick hp
  obtain ⟨n, h1, h2⟩ := h.sch.q g (hq.mem_iff.2 (by simp))
  have hl := st_lt h2
  have hy : σ.gs[n]? = some (σ.gs[n]'(by rw [h.gl]; exact hl)) := List.getElem?_eq_getElem _
  exact ⟨n, h1, h2, _, hy, (h.gs _ (List.mem_of_getElem? hy)).1⟩
theorem pick_rows {rows rows' : List (List Int)} {common common' : List Int} {p : Nat} {t v g : Int} (hp : PickR rows common p t v g rows' common') : rows'.length = rows.length := by
  cases hp <;> simp
theorem zip_set {σ : MS} {n : Nat} {s t : Int} {y y' : Gor} (hs : σ.st[n]? = some s) (hy : σ.gs[n]? = some y) (he : cg1 t y' = cg1 s y) : List.zipWith cg1 (σ.st.set n t) (σ.gs.set n y') = List.zipWith cg1 σ.st σ.gs := by
  refine List.ext_getElem? fun m => ?_
  rw [List.getElem?_zipWith, List.getElem?_zipWith]
  by_cases hn : m = n
  · subst hn
    rw [st_set_at hs, hs, List.getElem?_set_self (List.getElem?_eq_some_iff.1 hy).1, hy]
    simp only [he]
  · rw [List.getElem?_set_ne (Ne.symm hn), List.getElem?_set_ne (Ne.symm hn)]
theorem passF_bd {off : Bool} {x : Prc} {row common : List Int} {N : Int} (h : 0 ≤ x.passed ∧ x.passed ≤ N - 1) : 0 ≤ passF off x row common ∧ passF off x row common ≤ N - 0 := by
  unfold passF
  split <;> omega
/-- What a step may leave: the state, who runs at the P. -/
theorem InvK.take {c : Int} {σ σ' : MS} {p : Nat} {v : Int} {x : Prc} {off : Bool} (h : InvK 1 c σ) (hc : 0 ≤ c) (hx : σ.ps[p]? = some x) (hg : x.g = -1) (ht : TakeR σ p v x off σ') :
    InvK 0 c σ' ∧ coreM σ' = coreM σ ∧ σ'.commits = σ.commits ∧ σ'.fs = σ.fs ∧ σ'.steps = σ.steps ∧ σ'.ps.length = σ.ps.length ∧ ∃ x', σ'.ps[p]? = some x' ∧ x'.row ≤ x.row ∧ (x'.g = -1 → row σ p = [] ∧ σ.common = []) := by
  have hb := h.ps x (List.mem_of_getElem? hx)
  have hpl := (List.getElem?_eq_some_iff.1 hx).1
  have hw := h.weak (a' := 0) (c' := c) (by omega) (Int.le_refl _)
  cases ht with
  | none h1 h2 =>
    refine ⟨⟨h.pf, ⟨h.off.ph, h.off.force, h.off.hl, h.off.bg, h.off.part⟩, h.hn, h.out, ?_, ?_, h.gl, h.sl, h.wl, h.tm, h.gs, ?_, ?_, h.cm, h.clk, h.stp⟩, rfl, rfl, rfl, rfl, by simp [setP], pickedP off x (row σ p) σ.common, by simp [setP, hpl], Int.le_refl _, fun _ => ⟨h1, h2⟩⟩
    · simp [setP, h.rl]
    · simpa [setP] using h.pl
    · intro z hz
      rcases mem_set hz with hz | rfl
      · exact hw.ps z hz
      · exact ⟨hb.1, ⟨by show 0 ≤ x.picks + 1; omega, by show x.picks + 1 ≤ σ.steps - 0; omega⟩, passF_bd (N := σ.steps) hb.2.2.1, hb.2.2.2.1, hb.2.2.2.2⟩
    · rw [ps_map_set]
      have e : (σ.ps.map (·.g)).set p x.g = σ.ps.map (·.g) := by
        have : (σ.ps.map (·.g))[p]? = some x.g := by simp [hx]
        obtain ⟨hl, he⟩ := List.getElem?_eq_some_iff.1 this
        conv => lhs; rw [← he]
        exact List.set_getElem_self hl
      show SchI (queued σ) ((σ.ps.map (·.g)).set p x.g) _ _
      rw [e]
      exact h.sch
  | @some g rows' common' y hp hy =>
    obtain ⟨n, hn, hst, y', hy', hyl⟩ := h.pick hp
    have hgn : g = n := by omega
    subst hgn
    refine ⟨⟨h.pf, ⟨h.off.ph, h.off.force, h.off.hl, h.off.bg, h.off.part⟩, h.hn, h.out, ?_, ?_, ?_, ?_, h.wl, h.tm, ?_, ?_, ?_, h.cm, h.clk, h.stp⟩, ?_, rfl, rfl, rfl, by simp [setP, setG, mvF], tookP (pickedP off x (row σ p) σ.common) g, by simp [setP, setG, mvF, hpl], ?_, fun hh => ?_⟩
    · show rows'.length = _
      rw [pick_rows hp, h.rl]; simp [setP, setG, mvF]
    · simpa [setP, setG, mvF] using h.pl
    · simp [setP, setG, mvF, h.gl]
    · simpa [setP, setG, mvF] using h.sl
    · intro z hz
      rcases mem_set hz with hz | rfl
      · exact h.gs z hz
      · exact h.gs y (List.mem_of_getElem? hy)
    · intro z hz
      rcases mem_set hz with hz | rfl
      · exact hw.ps z hz
      · refine ⟨⟨?_, ?_⟩, ⟨by show 0 ≤ x.picks + 1; omega, by show x.picks + 1 ≤ σ.steps - 0; omega⟩, passF_bd (N := σ.steps) hb.2.2.1, hb.2.2.2.1, hb.2.2.2.2⟩
        · show 0 ≤ if (g : Int) = (pickedP off x (row σ p) σ.common).last then x.row else 0
          split <;> omega
        · show (if (g : Int) = (pickedP off x (row σ p) σ.common).last then x.row else 0) ≤ σ.steps - c
          split <;> omega
    · have h1 := (h.sch.perm (q_pick hp) (List.Perm.refl _)).take (p := p) (by simp [hx, hg])
      have e : (setG (setP { mvF σ g 2 with rows := rows', common := common' } p (tookP (pickedP off x (row σ p) σ.common) g)) g { y with p := p }).ps.map (·.g) = (σ.ps.map (·.g)).set p (g : Int) := by
        simp [setP, setG, mvF, List.map_set, tookP]
      rw [e]
      exact h1
    · have e := zip_set (t := 2) (y' := { y with p := (p : Int) }) hst hy rfl
      unfold coreM
      simp only [setG, setP, mvF]
      rw [e]
    · show (if (g : Int) = (pickedP off x (row σ p) σ.common).last then x.row else 0) ≤ x.row
      have := hb.1.1
      split <;> omega
    · have : (g : Int) = -1 := hh
      omega
end Go.E
