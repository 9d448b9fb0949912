/- Functions that put something off, and what is called so: it may recover. -/
import Derived.Recover
import Derived.Test.YtnbekdcepnfpaaaGreatDoorG05
set_option linter.unusedVariables false
set_option linter.unusedSimpArgs false
set_option maxRecDepth 10000
noncomputable section
namespace Go.E
open Go Go.Proofs

/-- What recover gives, and how the panic stands then. -/
def recOf : FrameMode → Value × FrameMode
  | .panicking ({ v, recovered := false, goexit := false } :: older) => (v, .panicking ({ v, recovered := true } :: older))
  | u => (.nilIface, u)

theorem wpOpsS_den {n : Nat} (all : Array Oper) (K : Exit → Fr → List Deferred → World → Prop) (cs : List Frame) : ∀ (l : List Oper) (i : Nat) (ρ : Fr) (ds : List Deferred) (w : World) (a : Act),
    all.toList.drop i = l → dOps n all.toList l ρ ds w K → Rel n ρ a → a.defers = ds → wpOpsS PP all (fun e a cs' w => cs' = cs ∧ Lift n K e a w) (List.range' i l.length) a cs w
  | [], i, ρ, ds, w, a, hl, h, hr, hd => ⟨rfl, ρ, hr, hd ▸ h⟩
  | o :: rest, i, ρ, ds, w, a, hl, h, hr, hd => by
    have hi : all[i]? = some o := by
      have h1 : all.toList[i]? = some o := by
        have : (all.toList.drop i)[0]? = some o := by rw [hl]; rfl
        simpa using this
      simpa using h1
    have hrest : all.toList.drop (i + 1) = rest := by
      have : (all.toList.drop i).drop 1 = rest := by rw [hl]; rfl
      rwa [List.drop_drop] at this
    simp only [dOps_cons, dOpsF, f2_eq] at h
    simp only [List.length_cons, List.range'_succ, wpOpsS, hi]
    cases hw : wantedF all.toList ρ o.guard with
    | none => rw [hw] at h; exact h.elim
    | some b =>
      rw [hw] at h
      have hwd := wantedF_eq hr hw
      have hput : ∀ v, (a.put o.dst v).defers = ds := fun v => by cases hdst : o.dst <;> simp [Act.put, hd]
      cases b with
      | false =>
        rw [if_neg (by rw [hwd]; simp)]
        exact wpOpsS_den all K cs rest (i + 1) _ ds w _ hrest h (hr.put o.dst undef) (hput undef)
      | true =>
        rw [if_pos hwd]
        simp only at h
        split at h
        · rename_i c hop
          split at h
          · rename_i f hc
            split at h
            · rename_i fn first cap hf
              have he : execOp a.eval o = pure (Next.defer { target := .fn fn cap, args := (first.toList ++ ρ.evs c.args.toList).toArray }) := by
                obtain ⟨callee, args, argTypes⟩ := c
                obtain ⟨dst, op, ty, pos, after, guard⟩ := o
                simp only at hop hc
                subst hop; subst hc
                simp only [execOp, resolve, hr.ev, hf, Deferred.ofValue, pure_bind]
                have : (first.toList ++ ρ.evs args.toList).toArray = first ++ args.map ρ.ev := by rw [evs_map]; apply Array.ext'; simp
                rw [this]
              rw [he]
              show wpOpsS PP all _ _ _ cs w
              refine wpOpsS_den all K cs rest (i + 1) _ _ w _ hrest h ?_ ?_
              · have := hr.put o.dst undef
                refine ⟨?_, ?_⟩
                · have h1 := this.size
                  cases hdst : o.dst <;> simp [Act.put, hdst] at h1 ⊢ <;> exact h1
                · intro t
                  have h1 := this.get t
                  cases hdst : o.dst <;> simp only [Act.put, hdst] at h1 ⊢ <;> exact h1
              · cases hdst : o.dst <;> simp [Act.put, hd]
            · exact h.elim
          · exact h.elim
        · have h1 := dOp_res o ρ w _ _ h
          rw [← hr.ev] at h1
          have hno : ∀ w', (execOp a.eval o).run PP w ≠ .ok .recover w' := by
            intro w' he
            rw [he] at h1
            exact h1
          split
          · rename_i w' he
            exact absurd he (hno w')
          · refine upon_of_res h1 (fun v w' hk => ?_) (fun c w' hx => ?_)
            · exact wpOpsS_den all K cs rest (i + 1) _ ds w' _ hrest hk (hr.put o.dst v) (hput v)
            · exact ⟨by first | rfl | trivial, ρ, hr, by rw [hd]; exact hx⟩

theorem wpOpsS_mono {ops : Array Oper} {Q Q' : Exit → Act → List Frame → World → Prop} (hq : ∀ e a cs w, Q e a cs w → Q' e a cs w) : ∀ (l : List Nat) (a : Act) (cs : List Frame) (w : World), wpOpsS PP ops Q l a cs w → wpOpsS PP ops Q' l a cs w
  | [], a, cs, w, h => hq _ _ _ _ h
  | i :: rest, a, cs, w, h => by
    simp only [wpOpsS] at h ⊢
    cases ho : ops[i]? with
    | none => rw [ho] at h; exact wpOpsS_mono hq rest _ _ _ h
    | some o =>
      rw [ho] at h
      simp only at h ⊢
      by_cases hw : Region.wanted o (yielded ops a.tmps) = true
      · rw [if_pos hw] at h ⊢
        generalize hr : (execOp a.eval o).run PP w = r at h ⊢
        cases r with
        | ok nx w' =>
          cases nx <;> simp only [Oper.upon] at h ⊢
          case value u => exact wpOpsS_mono hq rest _ _ _ h
          case skip => exact wpOpsS_mono hq rest _ _ _ h
          case defer d => exact wpOpsS_mono hq rest _ _ _ h
          case recover =>
            cases hrec : recoverD cs with
            | none => rw [hrec] at h; exact wpOpsS_mono hq rest _ _ _ h
            | some p => rw [hrec] at h; exact wpOpsS_mono hq rest _ _ _ h
          case enter f args =>
            refine Calls.mono h fun e w'' he => ?_
            cases e with
            | returned u => exact wpOpsS_mono hq rest _ _ _ he
            | panicked c => exact hq _ _ _ _ he
            | outgrown => obtain ⟨a0, w0, hl⟩ := he; exact ⟨a0, w0, hq _ _ _ _ hl⟩
          case row row args => exact Rows.mono h fun u w'' he => wpOpsS_mono hq rest _ _ _ he
        | halt x w' =>
          cases x <;> simp only [Oper.upon] at h ⊢
          case panic u => exact hq _ _ _ _ h
      · rw [if_neg hw] at h ⊢
        exact wpOpsS_mono hq rest _ _ _ h
/-- A deferred function whose first operation recovers. -/
theorem rec_den {f : FuncId} {fn : Func} {id : Nat} {ops : Array Oper} {rest : Code} {args : List Value} {u : FrameMode} {w : World} {Post : Ending → World → Prop} {o : Oper} {cargs : Array Operand} {ts : Array TypeId} {d : Nat}
    (hf : PP.funcs[f]? = some fn) (hb : fn.body = some (.seq (.region id ops false) rest)) (hn : args.length ≤ fn.ntmps)
    (ho : ops[0]? = some o) (hop : o.op = .call ⟨.builtin .recover, cargs, ts⟩) (hg : o.guard = none) (hd : o.dst = some d)
    (h : ∀ R : Ending → World → Prop, (∀ e w', Post e w' → R e w') →
      dOps fn.ntmps ops.toList (ops.toList.drop 1) ((fr0 args).put fn.ntmps (some d) (recOf u).1) [] w (fun e ρ' ds' w' => match e with | .normal => den fn.ntmps rest ρ' ds' w' (Fin fn.results.toList R) | e => Fin fn.results.toList R e ρ' ds' w')) :
    CallsD PP f args.toArray u w (fun e u' w' => u' = (recOf u).2 ∧ Post e w') := by
  have h := h Post fun _ _ h => h
  refine callsD_of_wpS hf hb fun c₀ cs hu => ?_
  refine wpS_seq (wpS_region ?_)
  have hsz : 0 < ops.size := by
    rcases Nat.eq_zero_or_pos ops.size with h0 | h0
    · rw [Array.getElem?_eq_none (by omega)] at ho; cases ho
    · exact h0
  obtain ⟨m, hm⟩ : ∃ m, ops.size = m + 1 := ⟨ops.size - 1, by omega⟩
  rw [List.range_eq_range', hm, List.range'_succ]
  simp only [wpOpsS, ho]
  have hwant : Region.wanted o (yielded ops (args.toArray ++ Array.replicate (fn.ntmps - args.toArray.size) undef)) = true := by
    simp [Region.wanted, hg]
  rw [if_pos hwant]
  have hex : ∀ ev, execOp ev o = pure .recover := by
    intro ev
    obtain ⟨dst, op, ty, pos, after, guard⟩ := o
    simp only at hop
    subst hop
    rfl
  rw [hex]
  simp only [Sem.run_pure]
  have hfin : ∀ (ρ : Fr) (w : World) (e : Exit) (a' : Act) (cs' : List Frame) (u' : FrameMode), cs' = { c₀ with mode := u' } :: cs → u' = (recOf u).2 → Rel fn.ntmps ρ a' → Fin fn.results.toList Post e ρ a'.defers w →
      bodyPostS PP fn c₀ cs (fun e u' w' => u' = (recOf u).2 ∧ Post e w') e a' cs' w := by
    intro ρ w e a' cs' u' hcs hu' hr' hk
    cases hds : a'.defers with
    | cons d ds => rw [hds] at hk; cases e <;> exact hk.elim
    | nil =>
      rw [hds] at hk
      cases e with
      | normal =>
        obtain ⟨vs, h1, h2⟩ := dRes_run hr' _ _ hk
        exact ⟨hds, u', hcs, _, results_run h1, hu', h2⟩
      | ret =>
        obtain ⟨vs, h1, h2⟩ := dRes_run hr' _ _ hk
        exact ⟨hds, u', hcs, _, results_run h1, hu', h2⟩
      | panic c => exact ⟨hds, u', hcs, hu', hk⟩
      | exit i => exact hk.elim
      | goto l => exact hk.elim
      | outgrown => exact hk.elim
  have main : ∀ (v : Value) (cs' : List Frame) (u' : FrameMode), cs' = { c₀ with mode := u' } :: cs → u' = (recOf u).2 → v = (recOf u).1 →
      wpOpsS PP ops (Exit.thenS (rest.wpS PP (bodyPostS PP fn c₀ cs (fun e u' w' => u' = (recOf u).2 ∧ Post e w'))) (bodyPostS PP fn c₀ cs (fun e u' w' => u' = (recOf u).2 ∧ Post e w'))) (List.range' 1 m)
        (({ tmps := args.toArray ++ Array.replicate (fn.ntmps - args.toArray.size) undef, defers := [] } : Act).put o.dst v) cs' w := by
    intro v cs' u' hcs hu' hv
    have hr0 := (rel0 fn.ntmps args hn).put o.dst v
    have hlen : (ops.toList.drop 1).length = m := by simp [hm]
    have key := wpOpsS_den (n := fn.ntmps) ops (fun e ρ' ds' w' => match e with | .normal => den fn.ntmps rest ρ' ds' w' (Fin fn.results.toList Post) | e => Fin fn.results.toList Post e ρ' ds' w') cs' (ops.toList.drop 1) 1 _ [] w _ rfl (by rw [← hv] at h; exact h) (by rw [hd] at hr0; exact hr0) (by rfl)
    rw [hlen, ← hd] at key
    refine wpOpsS_mono ?_ _ _ _ _ key
    rintro e a' cs'' w' ⟨rfl, ρ', hr', hk⟩
    cases e with
    | normal =>
      refine wpS_of_wp ?_
      refine Code.wp_mono (fun e a'' w'' hq => ?_) (den_sound rest _ ρ' _ w' a' hk hr' rfl)
      obtain ⟨ρ'', hr'', hk''⟩ := hq
      exact hfin ρ'' w'' e a'' _ u' hcs hu' hr'' hk''
    | _ => exact hfin ρ' w' _ a' _ u' hcs hu' hr' hk
  have hc0 : ({ c₀ with mode := u } : Frame) = c₀ := by subst hu; rfl
  have hrec : ∀ v cs', recoverD (c₀ :: cs) = some (v, cs') → cs' = { c₀ with mode := (recOf u).2 } :: cs ∧ v = (recOf u).1 := by
    intro v cs' h1
    simp only [recoverD, hu] at h1
    unfold recOf
    split at h1
    · cases h1; exact ⟨rfl, rfl⟩
    · cases h1
  have hrecn : recoverD (c₀ :: cs) = none → (c₀ :: cs) = { c₀ with mode := (recOf u).2 } :: cs ∧ Value.nilIface = (recOf u).1 := by
    intro h1
    simp only [recoverD, hu] at h1
    unfold recOf
    split at h1
    · cases h1
    · rename_i hno
      split
      · exact absurd rfl (hno _ _)
      · rw [hc0]; exact ⟨rfl, rfl⟩
  split
  · rename_i v cs' he
    obtain ⟨h1, h2⟩ := hrec v cs' he
    exact main v cs' _ h1 rfl h2
  · rename_i he
    obtain ⟨h1, h2⟩ := hrecn he
    exact main _ _ _ h1 rfl h2
/-- What was put off is done. -/
def LeavesF (rs : List ResultVar) (ρ : Fr) (R : Ending → World → Prop) : List Deferred → FrameMode → World → Prop
  | [], .returning, w => dRes w rs ρ (fun vs => R (.returned (pack vs)) w)
  | [], .panicking chain, w => R (.panicked chain) w
  | [], .run, _ => False
  | d :: ds, u, w => u ≠ .run ∧ (match d.target with
    | .fn (.func g) cap => okc g = true ∧ CallsD PP g (d.args ++ cap) u w (fun e u' w' => match e with
        | .returned _ => LeavesF rs ρ R ds (settle u') w'
        | .panicked chain => LeavesF rs ρ R ds (raised u' chain) w'
        | .outgrown => False)
    | _ => False)
def FinD (rs : List ResultVar) (R : Ending → World → Prop) (e : Exit) (ρ : Fr) (ds : List Deferred) (w : World) : Prop :=
  match e with
  | .normal => LeavesF rs ρ R ds .returning w
  | .ret => LeavesF rs ρ R ds .returning w
  | .panic c => LeavesF rs ρ R ds (.panicking c) w
  | _ => False
theorem leaves_of {fn : Func} {n : Nat} {ρ : Fr} {a : Act} (hr : Rel n ρ a) {R : Ending → World → Prop} : ∀ (ds : List Deferred) (u : FrameMode) (w : World), LeavesF fn.results.toList ρ R ds u w → Leaves PP fn a.tmps R ds u w
  | [], .returning, w, h => by
    obtain ⟨vs, h1, h2⟩ := dRes_run hr _ _ h
    exact ⟨_, results_run h1, h2⟩
  | [], .panicking chain, w, h => h
  | [], .run, w, h => h.elim
  | d :: ds, u, w, h => by
    obtain ⟨hu, h⟩ := h
    obtain ⟨t, dargs⟩ := d
    simp only at h
    split at h
    · rename_i g cap
      obtain ⟨hg, h⟩ := h
      refine leaves_cons hu (f := g) (args := dargs ++ cap) ?_ (h.mono fun e u' w' he => ?_)
      · exact callee_run (okc_ok hg) w
      · cases e with
        | returned v => exact leaves_of hr ds _ _ he
        | panicked chain => exact leaves_of hr ds _ _ he
        | outgrown => exact he.elim
    · exact h.elim
theorem calls_denD {f : FuncId} {fn : Func} {c : Code} {args : List Value} {w : World} {Post : Ending → World → Prop}
    (hf : PP.funcs[f]? = some fn) (hb : fn.body = some c) (hn : args.length ≤ fn.ntmps)
    (h : ∀ R : Ending → World → Prop, (∀ e w', Post e w' → R e w') → den fn.ntmps c (fr0 args) [] w (FinD fn.results.toList R)) : Calls PP f args.toArray w Post := by
  refine calls_of_wp_defers hf hb ?_
  refine Code.wp_mono (fun e a' w' hq => ?_) (den_sound c _ _ [] w _ (h Post (fun _ _ h => h)) (rel0 fn.ntmps args hn) rfl)
  obtain ⟨ρ', hr', hk⟩ := hq
  cases e with
  | normal => exact leaves_of hr' _ _ _ hk
  | ret => exact leaves_of hr' _ _ _ hk
  | panic c => exact leaves_of hr' _ _ _ hk
  | exit i => exact hk.elim
  | goto l => exact hk.elim
  | outgrown => exact hk.elim

theorem zeroA_run {t : Nat} {z : List Value} (h : inTau t = true) (ha : (tau t).agg = true) (hz : (tau t).zero = some z) (w : World) : (zeroValue t).run PP w = .ok (.agg z.toArray) w := by
  have hk : (tau t).k ≠ .other := by intro h; simp [TE.agg, h] at ha
  have h0 := tau_ok h
  unfold teOK at h0
  split at h0
  · rename_i he; exact absurd he hk
  · split at h0
    · rename_i i hi
      simp only [Bool.and_eq_true, beq_iff_eq] at h0
      obtain ⟨⟨h1, h2⟩, h3⟩ := h0
      rw [hz] at h2
      simp only at h2
      split at h2
      · rename_i v hv
        simp only [Bool.and_eq_true] at h2
        obtain ⟨h4, h5⟩ := h2
        have hc := vsbeq_eq h4
        have hv2 : v = .agg z.toArray := by
          split at h5
          · rename_i cs
            congr 1
            rw [← hc]; simp [Value.cells]
          · cases h5
          · rw [ha] at h5; cases h5
        unfold zeroValue
        simp only [Sem.run_bind, typeInfo, run_program, Result.andThen_ok, hi, Sem.run_pure, hv, hv2]
      · cases h2
    · cases h0
/-! What an interface holds -/
section
variable {ty : TypeId} {w : World} {K : Value → World → Prop} {X : List PanicEntry → World → Prop}
/-- x.(T) of what holds a T. -/
theorem RUN.assertOk {x : Operand} {xt t : TypeId} {v : Value} (ht : known t = true) (hi : (match (tau t).k with | .iface => false | _ => true) = true) (k : K (.tuple #[v, .bool true]) w) : RUN (.typeAssert x xt t true) ty [.iface t v] w K X := by
  obtain ⟨h1, h2⟩ := known_ok ht
  obtain ⟨d, hd, hne⟩ := noIface h1 rfl (fun h => by rw [h] at hi; cases hi) h2
  refine .ok _ w ?_ k
  simp only [semOf, Instr.typeAssert, Sem.run_bind, run_underlying' hd, Result.andThen_ok]
  cases d <;> first | (exact absurd rfl (hne _)) | simp
theorem RUN.assertNil {x : Operand} {xt t : TypeId} {z : List Value} (ht : known t = true) (hi : (match (tau t).k with | .iface => false | _ => true) = true) (ha : (tau t).agg = true) (hz : (tau t).zero = some z)
    (k : K (.tuple #[.agg z.toArray, .bool false]) w) : RUN (.typeAssert x xt t true) ty [.nilIface] w K X := by
  obtain ⟨h1, h2⟩ := known_ok ht
  obtain ⟨d, hd, hne⟩ := noIface h1 rfl (fun h => by rw [h] at hi; cases hi) h2
  have hv := zeroA_run h1 ha hz w
  refine .ok _ w ?_ k
  simp only [semOf, Instr.typeAssert, Sem.run_bind, run_underlying' hd, Result.andThen_ok]
  cases d <;> first | (exact absurd rfl (hne _)) | simp [hv]
end
end Go.E
end
