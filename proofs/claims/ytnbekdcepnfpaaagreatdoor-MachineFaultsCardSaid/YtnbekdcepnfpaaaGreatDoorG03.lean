/- Regions that draw their order: one walk serves every order. -/
import Derived.WalkKit
import Derived.StillTail
import Derived.Test.YtnbekdcepnfpaaaGreatDoorG02
set_option linter.unusedVariables false
set_option linter.unusedSimpArgs false
set_option maxRecDepth 10000
noncomputable section
namespace Go.E
open Go

/-- In this state and world the operation yields v, and what was there stays. -/
def YE (ops : Array Oper) (o : Oper) (v : Value) (a : Act) (w : World) : Prop :=
  (Region.wanted o (yielded ops a.tmps) = true ∧ resOK ((execOp a.eval o).run PP w) (fun u w' => u = v ∧ Ext w w') (fun _ _ => False)) ∨
  (Region.wanted o (yielded ops a.tmps) = false ∧ v = undef)

theorem YE.of_same {ops : Array Oper} {o : Oper} {v : Value} {a a' : Act} {w : World} (h : YE ops o v a w) (he : execOp a'.eval o = execOp a.eval o)
    (hw : Region.wanted o (yielded ops a'.tmps) = Region.wanted o (yielded ops a.tmps)) : YE ops o v a' w := by
  unfold YE at *; rw [he, hw]; exact h

theorem YE.wpOp {ops : Array Oper} {Q : Exit → Act → World → Prop} {i : Nat} {o : Oper} {v : Value} {a : Act} {w : World} {K : Act → World → Prop} (hi : ops[i]? = some o) (hy : YE ops o v a w)
    (h : ∀ w', Ext w w' → K (a.put o.dst v) w') : wpOp PP ops Q i K a w := by
  unfold Go.wpOp
  simp only [hi]
  rcases hy with ⟨hw, hv⟩ | ⟨hw, rfl⟩
  · simp only [hw, if_true]
    refine .inl ?_
    unfold Oper.wp
    exact upon_of_res hv (fun u w' ⟨hu, he⟩ => hu ▸ h w' he) (fun _ _ hx => hx.elim)
  · simp only [hw, Bool.false_eq_true, if_false]; exact h w (Ext.refl w)

theorem wpOp_putE {ops : Array Oper} {Q : Exit → Act → World → Prop} {j : Nat} {oi oj : Oper} {v : Value} (hj : ops[j]? = some oj) (hap : oi.apart ops oj = true)
    (hsi : ∀ cs b, oi.op ≠ .select cs b) (hsj : ∀ cs b, oj.op ≠ .select cs b)
    (hQ : ∀ c a w, Q (.panic c) (a.put oi.dst v) w → Q (.panic c) a w) {K : Act → World → Prop} {a : Act} {w : World}
    (h : wpOp PP ops Q j K (a.put oi.dst v) w) :
    wpOp PP ops Q j (fun a' w' => (execOp a'.eval oi = execOp a.eval oi ∧ Region.wanted oi (yielded ops a'.tmps) = Region.wanted oi (yielded ops a.tmps)) ∧ K (a'.put oi.dst v) w') a w := by
  obtain ⟨h1, h2, h3⟩ := Oper.apart_spec hap
  have keep : ∀ (a' : Act), (execOp a'.eval oi = execOp a.eval oi ∧ Region.wanted oi (yielded ops a'.tmps) = Region.wanted oi (yielded ops a.tmps)) → ∀ u,
      (execOp (a'.put oj.dst u).eval oi = execOp a.eval oi ∧ Region.wanted oi (yielded ops (a'.put oj.dst u).tmps) = Region.wanted oi (yielded ops a.tmps)) := fun a' hy u =>
    ⟨(execOp_put oi hsi a' oj.dst u h3).trans hy.1, (wanted_put oi a' oj.dst u h3).trans hy.2⟩
  have keep0 := keep a ⟨rfl, rfl⟩
  have keepD : ∀ d : Deferred, execOp ({ a with defers := d :: a.defers } : Act).eval oi = execOp a.eval oi ∧ Region.wanted oi (yielded ops ({ a with defers := d :: a.defers } : Act).tmps) = Region.wanted oi (yielded ops a.tmps) := fun d => ⟨rfl, rfl⟩
  unfold wpOp at h ⊢
  simp only [hj] at h ⊢
  rw [wanted_put oj a oi.dst v h1] at h
  split
  · rename_i hw
    simp only [hw, if_true] at h
    rcases h with h | ⟨hasks, hlets⟩
    case inr => exact .inr ⟨by unfold Oper.asks at *; rw [execOp_put oj hsj a oi.dst v h1] at hasks; exact hasks, hlets⟩
    refine .inl ?_
    unfold Oper.wp at *
    rw [execOp_put oj hsj a oi.dst v h1] at h
    generalize (execOp a.eval oj).run PP w = r at *
    cases r with
    | ok n w' =>
      cases n <;> simp only [Oper.upon] at h ⊢
      case value u => exact ⟨keep0 u, by rw [← Act.put_comm a v u h2]; exact h⟩
      case skip => exact ⟨keep0 _, by rw [← Act.put_comm a v undef h2]; exact h⟩
      case defer d =>
        refine ⟨keep _ (keepD d) _, ?_⟩
        rw [← Act.put_comm _ v undef h2, ← Act.put_defers]
        exact h
      case enter f args =>
        refine Calls.mono h fun e w'' he => ?_
        cases e with
        | returned u => exact ⟨keep0 u, by rw [← Act.put_comm a v u h2]; exact he⟩
        | panicked c => exact hQ _ _ _ he
        | outgrown => exact he
      case row row args => exact Rows.mono h fun u w'' he => ⟨keep0 u, by rw [← Act.put_comm a v u h2]; exact he⟩
    | halt x w' =>
      cases x <;> simp only [Oper.upon] at h ⊢
      case panic u => exact hQ _ _ _ h
  · rename_i hw
    simp only [hw] at h
    exact ⟨keep0 _, by rw [← Act.put_comm a v undef h2]; exact h⟩

section
variable {ops : Array Oper} {Q : Exit → Act → World → Prop} {S : World → Prop} {m : Nat} {L : Array Bool → Act → World → Prop}

/-- What stays so when there is only more. -/
def Up (S : World → Prop) : Prop := ∀ w w', S w → Ext w w' → S w'
/-- What depends on its operands alone. -/
def pureOp : Op → Bool
  | .load .. => false
  | .lookup .. => false
  | .call c => (match c.callee with | .builtin .len => true | .builtin .min => true | .builtin .max => true | _ => false)
  | _ => true
/-- The operation waits for all of the head that is listed and looks into the heap. -/
def forcedB (ops : Array Oper) (m : Nat) (listed : Array Bool) (i : Nat) : Bool :=
  match ops[i]? with
  | none => false
  | some oi => (List.range m).all fun k => k == i || !listed.getD k true || oi.after.any (fun e => Region.binds .any e && e.on == k) || (match ops[k]? with | some ok => pureOp ok.op | none => true)
def wpE (ops : Array Oper) (Q : Exit → Act → World → Prop) (m : Nat) (L : Array Bool → Act → World → Prop) : Nat → (World → Prop) → Array Bool → Act → World → Prop
  | 0, S, listed, a, w => ∀ w', Ext w w' → L listed a w'
  | f + 1, S, listed, a, w => Region.ready .any ops listed ≠ [] ∧ ∀ i ∈ Region.ready .any ops listed, i < m ∧ ∀ w', Ext w w' → S w' →
      wpOp PP ops Q i (fun a' w'' => (S w'' ∧ wpE ops Q m L f S (listed.setIfInBounds i true) a' w'') ∨
        (forcedB ops m listed i = true ∧ ∃ S', Up S' ∧ S' w'' ∧ wpE ops Q m L f S' (listed.setIfInBounds i true) a' w'')) a w'

theorem wpE_ext {f : Nat} {S : World → Prop} {listed : Array Bool} {a : Act} {w w' : World} (hw : Ext w w') (h : wpE ops Q m L f S listed a w) : wpE ops Q m L f S listed a w' := by
  cases f with
  | zero => exact fun w'' hw' => h w'' (hw.trans' hw')
  | succ f => exact ⟨h.1, fun i hi => ⟨(h.2 i hi).1, fun w'' hw' hs => (h.2 i hi).2 w'' (hw.trans' hw') hs⟩⟩

theorem wpAny_of_E {g : Nat} (hL : ∀ listed a w, L listed a w → wpAny PP .any ops Q g listed a w) : ∀ (f : Nat) (S : World → Prop) (listed : Array Bool) (a : Act) (w : World), S w →
    wpE ops Q m L f S listed a w → wpAny PP .any ops Q (f + g) listed a w
  | 0, S, listed, a, w, _, h => by rw [Nat.zero_add]; exact hL _ _ _ (h w (Ext.refl w))
  | f + 1, S, listed, a, w, hs, h => by
    rw [show f + 1 + g = (f + g) + 1 by omega]
    refine ⟨fun h0 => absurd h0 h.1, fun i hi => wpOp_mono (fun a' w' h' => ?_) ((h.2 i hi).2 w (Ext.refl w) hs)⟩
    rcases h' with h' | ⟨_, S', _, hs', h'⟩
    · exact wpAny_of_E hL f S _ a' w' h'.1 h'.2
    · exact wpAny_of_E hL f S' _ a' w' hs' h'

/-- Either there is no tail, or all of it waits for the head. -/
def tailB (ops : Array Oper) (m : Nat) : Bool := Nat.beq m ops.size || (Nat.blt m ops.size && Region.sinkB .any ops m && Region.chainB .any ops m)

theorem head_lt (hB : tailB ops m = true) {listed : Array Bool} (inv : HeadInv .any ops m listed) {i j : Nat} (hi : i < m) (hun : listed.getD i true = false) (hj : j ∈ Region.ready .any ops listed) : j < m := by
  simp only [tailB, Bool.or_eq_true, Bool.and_eq_true] at hB
  rcases hB with hB | ⟨⟨h1, h2⟩, h3⟩
  · have := Nat.eq_of_beq_eq_true hB
    obtain ⟨_, o, ho, _⟩ := mem_ready.1 hj
    have := (Array.getElem?_eq_some_iff.1 ho).1
    omega
  · rcases Nat.lt_or_ge j m with h | h
    · exact h
    · exact absurd hj (tail_waits h2 h3 (by simpa [Nat.blt_eq] using h1) inv _ i rfl hi hun j h)

theorem forcedB_less {i j : Nat} {listed : Array Bool} (h : forcedB ops m (listed.setIfInBounds i true) j = true) : forcedB ops m listed j = true := by
  unfold forcedB at h ⊢
  cases hj : ops[j]? with
  | none => rw [hj] at h; cases h
  | some oj =>
    rw [hj] at h
    simp only [List.all_eq_true] at h ⊢
    intro k hk
    have h1 := h k hk
    by_cases hki : i = k
    · subst hki
      cases hl : listed.getD i true with
      | false => simp
      | true =>
        have h6 : (listed.setIfInBounds i true).getD i true = true := by
          rw [Array.getD_eq_getD_getElem?, Array.getElem?_setIfInBounds]
          simp only [if_true]
          split <;> rfl
        rw [h6] at h1
        exact h1
    · rw [getD_set_ne true hki] at h1
      exact h1
theorem wpE_take {i : Nat} {oi : Oper} {v : Value} (hi : ops[i]? = some oi) (hsel : Region.noSelect ops = true) (hB : tailB ops m = true) (him : i < m)
    (hdone : ∀ listed a w, L listed a w → ∀ j ∈ Region.ready .any ops listed, m ≤ j) (hQ : ∀ c a w, Q (.panic c) (a.put oi.dst v) w → Q (.panic c) a w) :
    ∀ (f : Nat) (S : World → Prop) (listed : Array Bool) (a : Act) (w : World), Up S → HeadInv .any ops m listed →
      (∀ j oj, ops[j]? = some oj → j ≠ i → listed.getD j true = false → (∀ e ∈ oj.after, Region.binds .any e = true → e.on ≠ i) → oi.apart ops oj = true) →
      i ∈ Region.ready .any ops listed → ((pureOp oi.op = false ∧ ∀ w, S w → YE ops oi v a w) ∨ (∀ w, YE ops oi v a w)) →
      wpE ops Q m L f S (listed.setIfInBounds i true) (a.put oi.dst v) w → wpE ops Q m L (f + 1) S listed a w := by
  have hsel' := Region.noSelect_spec hsel
  intro f
  induction f with
  | zero =>
    intro S listed a w hS inv _ hr hy H
    have hy' : ∀ w, S w → YE ops oi v a w := hy.elim (fun h => h.2) (fun h w _ => h w)
    have hun := (mem_ready.1 hr).1
    refine ⟨fun h => (by rw [h] at hr; cases hr), fun j hj => ?_⟩
    have hjm := head_lt hB inv him hun hj
    refine ⟨hjm, fun w' hw hs => ?_⟩
    by_cases hji : j = i
    · subst hji
      exact (hy' w' hs).wpOp hi fun w'' hw' => .inl ⟨hS _ _ hs hw', wpE_ext (hw.trans' hw') H⟩
    · have := hdone _ _ _ (H w (Ext.refl w)) j (ready_mono hj hji)
      omega
  | succ f ih =>
    intro S listed a w hS inv hfree hr hy H
    have hy' : ∀ w, S w → YE ops oi v a w := hy.elim (fun h => h.2) (fun h w _ => h w)
    have hun := (mem_ready.1 hr).1
    refine ⟨fun h => (by rw [h] at hr; cases hr), fun j hj => ?_⟩
    have hjm := head_lt hB inv him hun hj
    refine ⟨hjm, fun w' hw hs => ?_⟩
    by_cases hji : j = i
    · subst hji
      exact (hy' w' hs).wpOp hi fun w'' hw' => .inl ⟨hS _ _ hs hw', wpE_ext (hw.trans' hw') H⟩
    · have h1 := (H.2 j (ready_mono hj hji)).2 w' hw hs
      obtain ⟨hjun, oj, hoj, hall⟩ := mem_ready.1 hj
      have hnot : ∀ e ∈ oj.after, Region.binds .any e = true → e.on ≠ i := fun e he hb heq => by
        have h1 := hall e he hb
        rw [heq, getD_both hun] at h1
        cases h1
      have h2 := wpOp_putE hoj (hfree j oj hoj hji hjun hnot) (fun cs b => hsel' i oi cs b hi) (fun cs b => hsel' j oj cs b hoj) hQ h1
      have hfree' : ∀ k ok, ops[k]? = some ok → k ≠ i → (listed.setIfInBounds j true).getD k true = false →
          (∀ e ∈ ok.after, Region.binds .any e = true → e.on ≠ i) → oi.apart ops ok = true := fun k ok hk hki hun hno => by
        refine hfree k ok hk hki ?_ hno
        by_cases hjk : j = k
        · subst hjk; exact hjun
        · rw [getD_set_ne true hjk] at hun; exact hun
      refine wpOp_mono (fun a' w'' h3 => ?_) h2
      rcases h3.2 with h4 | ⟨hfo, S', hS', hs', h4⟩
      · refine .inl ⟨h4.1, ih S (listed.setIfInBounds j true) a' w'' hS (inv.set hj hjm) hfree' (ready_mono hr (Ne.symm hji)) ?_ ?_⟩
        · exact hy.imp (fun h => ⟨h.1, fun w hs => (h.2 w hs).of_same h3.1.1 h3.1.2⟩) (fun h w => (h w).of_same h3.1.1 h3.1.2)
        · rw [Array.setIfInBounds_comm _ _ hji]
          exact h4.2
      · refine .inr ⟨forcedB_less hfo, S', hS', hs', ih S' (listed.setIfInBounds j true) a' w'' hS' (inv.set hj hjm) hfree' (ready_mono hr (Ne.symm hji)) ?_ ?_⟩
        · rcases hy with ⟨hp, _⟩ | hy
          · exfalso
            simp only [forcedB, hoj, List.all_eq_true] at hfo
            have h5 := hfo i (List.mem_range.2 him)
            have h6 : (listed.setIfInBounds i true).getD i true = true := by
              rw [Array.getD_eq_getD_getElem?, Array.getElem?_setIfInBounds]
              simp only [if_true]
              split <;> rfl
            rw [h6] at h5
            have h7 : (i == j) = false := by simpa using Ne.symm hji
            rw [h7, hi] at h5
            simp only [hp, Bool.not_true, Bool.or_false, Bool.false_or, Array.any_eq_true', Bool.and_eq_true, beq_iff_eq] at h5
            obtain ⟨e, he, hb, heq⟩ := h5
            exact hnot e he hb heq
          · exact .inr fun w => (hy w).of_same h3.1.1 h3.1.2
        · rw [Array.setIfInBounds_comm _ _ hji]
          exact h4

theorem wpE_loud {i f : Nat} {listed : Array Bool} {a : Act} {w : World} (hr : Region.ready .any ops listed = [i]) (him : i < m)
    (h : ∀ w', Ext w w' → S w' → wpOp PP ops Q i (fun a' w'' => (S w'' ∧ wpE ops Q m L f S (listed.setIfInBounds i true) a' w'') ∨
        (forcedB ops m listed i = true ∧ ∃ S', Up S' ∧ S' w'' ∧ wpE ops Q m L f S' (listed.setIfInBounds i true) a' w'')) a w') : wpE ops Q m L (f + 1) S listed a w := by
  refine ⟨by rw [hr]; simp, fun j hj => ?_⟩
  rw [hr] at hj
  have : j = i := by simpa using hj
  subst this
  exact ⟨him, h⟩
end

/-! ### The walk of a region -/
/-- An operation that only looks: it is run in every world that meets S. -/
inductive RUNQ (S : World → Prop) (op : Op) (ty : TypeId) (vs : List Value) (K : Value → Prop) : Prop
  | mk (v : Value) (h : ∀ w, S w → (semOf op ty vs).run PP w = .ok v w) (k : K v)
inductive CALLQ (S : World → Prop) (f : Nat) (args : List Value) (K : Value → Prop) : Prop
  | mk (v : Value) (hc : okc f = true) (h : ∀ w, S w → Calls PP f args.toArray w (fun e w' => e = .returned v ∧ Ext w w')) (k : K v)
  | ext (v : Value) (h : ∀ w, S w → (callFunc f args.toArray).run PP w = .ok (.value v) w) (k : K v)

def qOpU (S : World → Prop) (op : Op) (ty : TypeId) (ρ : Fr) (K : Value → Prop) : Prop :=
  match op with
  | .move x => K (ρ.ev x)
  | .assign x => K (ρ.ev x)
  | .pick c a b => (match ρ.ev c with | .bool true => K (ρ.ev a) | .bool false => K (ρ.ev b) | _ => False)
  | .nilCheck x => (match ρ.ev x with
    | .pointer (some a) => K (.pointer (some a))
    | .func (.func f) a b => K (.func (.func f) a b)
    | _ => False)
  | .fieldAddr s x f => (match inTau s, (tau s).k, ρ.ev x with
    | true, .struct fs, .pointer (some ⟨b, o, none⟩) => (match nth fs f with
      | some (off, sz, _) => (match Nat.beq sz 0 with | true => False | false => K (.pointer (some ⟨b, o + off, none⟩)))
      | none => False)
    | _, _, _ => False)
  | .indexAddr t x i => (match inTau t, (tau t).k, ρ.ev x, ρ.ev i with
    | true, .slice _ esz _, .slice (some ⟨b, o, none⟩) n _, .int _ i => BD i n esz o (fun o' => K (.pointer (some ⟨b, o', none⟩)))
    | true, .arr n _ esz, .pointer (some ⟨b, o, none⟩), .int _ i => BD i n esz o (fun o' => K (.pointer (some ⟨b, o', none⟩)))
    | _, _, _, _ => RUNQ S op ty [ρ.ev x, ρ.ev i] K)
  | .binOp o t x y _ => dBin o (ρ.ev x) (ρ.ev y) (fun v => K v) (match o with
      | .eql => dEq t (ρ.ev x) (ρ.ev y) (fun b => K (.bool b)) (RUNQ S op ty [ρ.ev x, ρ.ev y] K)
      | .neq => dEq t (ρ.ev x) (ρ.ev y) (fun b => K (.bool (!b))) (RUNQ S op ty [ρ.ev x, ρ.ev y] K)
      | _ => RUNQ S op ty [ρ.ev x, ρ.ev y] K)
  | .unOp .not _ x => (match ρ.ev x with | .bool b => K (.bool (!b)) | _ => False)
  | .unOp _ _ x => RUNQ S op ty [ρ.ev x] K
  | .convert s d x => (match inTau s, inTau d, (tau d).k, (tau s).k, ρ.ev x with
    | true, true, .int k, .int _, .int _ n => CVI k n (fun r => K (.int k r))
    | _, _, _, _, v => RUNQ S op ty [v] K)
  | .makeInterface t x => (match inTau t, (tau t).k with
    | true, .iface => False
    | true, .other => False
    | true, _ => K (.iface t (ρ.ev x))
    | _, _ => False)
  | .makeFunc fn a c => K (.func fn (ρ.evs a.toList).toArray (ρ.evs c.toList).toArray)
  | .build t ps => (match inTau t, (tau t).k, (tau t).zero with
    | true, .struct fs, some z => (match fillL (plc fs) z (ρ.evp ps.toList) with
      | some cs => K (.agg cs.toArray)
      | none => False)
    | _, _, _ => RUNQ S op ty (ρ.evp ps.toList |>.map (·.2)) K)
  | .field t x f => (match inTau t, (tau t).k, ρ.ev x with
    | true, .struct fs, .agg cs => (match nth fs f with
      | some (off, _, u) => (match inTau u, (tau u).agg, nth cs.toList off with
        | true, false, some v => (match (tau u).k with | .other => False | _ => K v)
        | _, _, _ => False)
      | none => False)
    | _, _, _ => False)
  | .extract x i => (match ρ.ev x with | .tuple vs => (match nth vs.toList i with | some v => K v | none => False) | _ => False)
  | .call c => (match c.callee with
    | .value f => (match ρ.ev f with
      | .func (.func g) first cap => CALLQ S g (first.toList ++ ρ.evs c.args.toList ++ cap.toList) K
      | _ => False)
    | .invoke _ _ => False
    | .builtin .len => (match ρ.evs c.args.toList, c.argTypes.toList with
      | [.slice b n c'], [t] => (match inTau t, isSl (tau t).k with | true, true => LEN n (fun r => K (.int .i64 r)) | _, _ => RUNQ S op ty [.slice b n c'] K)
      | vs, _ => RUNQ S op ty vs K)
    | .builtin _ => RUNQ S op ty (ρ.evs c.args.toList) K)
  | .load _ x => RUNQ S op ty [ρ.ev x] K
  | .index _ x i => RUNQ S op ty [ρ.ev x, ρ.ev i] K
  | .lookup _ x i _ => RUNQ S op ty [ρ.ev x, ρ.ev i] K
  | .typeAssert x _ _ _ => RUNQ S op ty [ρ.ev x] K
  | .slice _ x lo hi none => RUNQ S op ty (ρ.ev x :: (ρ.evs lo.toList ++ ρ.evs hi.toList)) K
  | _ => False

def RUNQF (S : World → Prop) (op : Op) (ty : TypeId) (vs : List Value) (K : Value → Prop) : Prop := fL f1 vs fun vs => RUNQ S op ty vs K
theorem RUNQF_eq (S : World → Prop) (op : Op) (ty : TypeId) (vs : List Value) (K : Value → Prop) : RUNQF S op ty vs K = RUNQ S op ty vs K := fL_eq f1_eq _ _
def CALLQF (S : World → Prop) (f : Nat) (args : List Value) (K : Value → Prop) : Prop := fL f1 args fun vs => CALLQ S f vs K
theorem CALLQF_eq (S : World → Prop) (f : Nat) (args : List Value) (K : Value → Prop) : CALLQF S f args K = CALLQ S f args K := fL_eq f1_eq _ _
def qOp (S : World → Prop) (op : Op) (ty : TypeId) (ρ : Fr) (K : Value → Prop) : Prop :=
  match op with
  | .move x => K (ρ.ev x)
  | .assign x => K (ρ.ev x)
  | .pick c a b => (match ρ.ev c with | .bool true => K (ρ.ev a) | .bool false => K (ρ.ev b) | _ => False)
  | .nilCheck x => (match ρ.ev x with
    | .pointer (some a) => K (.pointer (some a))
    | .func (.func f) a b => K (.func (.func f) a b)
    | _ => False)
  | .fieldAddr s x f => (match inTau s, (tau s).k, ρ.ev x with
    | true, .struct fs, .pointer (some ⟨b, o, none⟩) => (match nth fs f with
      | some (off, sz, _) => (match Nat.beq sz 0 with | true => False | false => K (.pointer (some ⟨b, o + off, none⟩)))
      | none => False)
    | _, _, _ => False)
  | .indexAddr t x i => (match inTau t, (tau t).k, ρ.ev x, ρ.ev i with
    | true, .slice _ esz _, .slice (some ⟨b, o, none⟩) n _, .int _ i => BD i n esz o (fun o' => K (.pointer (some ⟨b, o', none⟩)))
    | true, .arr n _ esz, .pointer (some ⟨b, o, none⟩), .int _ i => BD i n esz o (fun o' => K (.pointer (some ⟨b, o', none⟩)))
    | _, _, _, _ => RUNQF S op ty [ρ.ev x, ρ.ev i] K)
  | .binOp o t x y _ => dBin o (ρ.ev x) (ρ.ev y) (fun v => K v) (match o with
      | .eql => dEq t (ρ.ev x) (ρ.ev y) (fun b => K (.bool b)) (RUNQF S op ty [ρ.ev x, ρ.ev y] K)
      | .neq => dEq t (ρ.ev x) (ρ.ev y) (fun b => K (.bool (!b))) (RUNQF S op ty [ρ.ev x, ρ.ev y] K)
      | _ => RUNQF S op ty [ρ.ev x, ρ.ev y] K)
  | .unOp .not _ x => (match ρ.ev x with | .bool b => K (.bool (!b)) | _ => False)
  | .unOp _ _ x => RUNQF S op ty [ρ.ev x] K
  | .convert s d x => (match inTau s, inTau d, (tau d).k, (tau s).k, ρ.ev x with
    | true, true, .int k, .int _, .int _ n => CVI k n (fun r => K (.int k r))
    | _, _, _, _, v => RUNQF S op ty [v] K)
  | .makeInterface t x => (match inTau t, (tau t).k with
    | true, .iface => False
    | true, .other => False
    | true, _ => K (.iface t (ρ.ev x))
    | _, _ => False)
  | .makeFunc fn a c => K (.func fn (ρ.evs a.toList).toArray (ρ.evs c.toList).toArray)
  | .build t ps => (match inTau t, (tau t).k, (tau t).zero with
    | true, .struct fs, some z => (match fillL (plc fs) z (ρ.evp ps.toList) with
      | some cs => K (.agg cs.toArray)
      | none => False)
    | _, _, _ => RUNQF S op ty (ρ.evp ps.toList |>.map (·.2)) K)
  | .field t x f => (match inTau t, (tau t).k, ρ.ev x with
    | true, .struct fs, .agg cs => (match nth fs f with
      | some (off, _, u) => (match inTau u, (tau u).agg, nth cs.toList off with
        | true, false, some v => (match (tau u).k with | .other => False | _ => K v)
        | _, _, _ => False)
      | none => False)
    | _, _, _ => False)
  | .extract x i => (match ρ.ev x with | .tuple vs => (match nth vs.toList i with | some v => K v | none => False) | _ => False)
  | .call c => (match c.callee with
    | .value f => (match ρ.ev f with
      | .func (.func g) first cap => CALLQF S g (first.toList ++ ρ.evs c.args.toList ++ cap.toList) K
      | _ => False)
    | .invoke _ _ => False
    | .builtin .len => (match ρ.evs c.args.toList, c.argTypes.toList with
      | [.slice b n c'], [t] => (match inTau t, isSl (tau t).k with | true, true => LEN n (fun r => K (.int .i64 r)) | _, _ => RUNQF S op ty [.slice b n c'] K)
      | vs, _ => RUNQF S op ty vs K)
    | .builtin _ => RUNQF S op ty (ρ.evs c.args.toList) K)
  | .load _ x => RUNQF S op ty [ρ.ev x] K
  | .index _ x i => RUNQF S op ty [ρ.ev x, ρ.ev i] K
  | .lookup _ x i _ => RUNQF S op ty [ρ.ev x, ρ.ev i] K
  | .typeAssert x _ _ _ => RUNQF S op ty [ρ.ev x] K
  | .slice _ x lo hi none => RUNQF S op ty (ρ.ev x :: (ρ.evs lo.toList ++ ρ.evs hi.toList)) K
  | _ => False

theorem qOp_eq (S : World → Prop) (op : Op) (ty : TypeId) (ρ : Fr) (K : Value → Prop) : qOp S op ty ρ K = qOpU S op ty ρ K := by
  unfold qOp qOpU
  simp only [RUNQF_eq, CALLQF_eq]

theorem RUNQ.run {S : World → Prop} {op : Op} {ty : TypeId} {vs : List Value} {K : Value → Prop} (h : RUNQ S op ty vs K) :
    ∃ v, K v ∧ ∀ w, S w → RUN op ty vs w (fun u w' => u = v ∧ Ext w w') (fun _ _ => False) := by
  cases h with | mk v h k => exact ⟨v, k, fun w hs => .ok v w (h w hs) ⟨rfl, Ext.refl w⟩⟩

theorem dBin_q {op : BinOp} {a b : Value} {K : Value → Prop} {R : Prop} {W : World → Prop} {RW : World → Value → Prop} {C : Value → World → Value → Prop}
    (h : dBin op a b K R) (hR : R → ∃ v, K v ∧ ∀ w, W w → RW w v) :
    ∃ v, K v ∧ ∀ w, W w → dBin op a b (fun u => u = v) (RW w v) := by
  unfold dBin at h ⊢
  cases a <;> cases b <;> first
    | (obtain ⟨v, h1, h2⟩ := hR h; exact ⟨v, h1, h2⟩)
    | skip
  simp only at h ⊢
  rename_i k x l y
  split at h
  all_goals first
    | (cases h with | mk r hr hk => exact ⟨_, hk, fun w hw => .mk r hr rfl⟩)
    | exact h.elim
    | (cases h with
       | yes hc hk => exact ⟨_, hk, fun w hw => .yes hc rfl⟩
       | no hc hk => exact ⟨_, hk, fun w hw => .no hc rfl⟩)

theorem qOpU_q {S : World → Prop} (op : Op) (ty : TypeId) (ρ : Fr) (K : Value → Prop) (h : qOpU S op ty ρ K) :
    ∃ v, K v ∧ ∀ w, S w → dOpU op ty ρ w (fun u w' => u = v ∧ Ext w w') (fun _ _ => False) := by
  have ex : ∀ {v}, K v → (∀ w, dOpU op ty ρ w (fun u w' => u = v ∧ Ext w w') (fun _ _ => False)) → ∃ v, K v ∧ ∀ w, S w → dOpU op ty ρ w (fun u w' => u = v ∧ Ext w w') (fun _ _ => False) :=
    fun hk hd => ⟨_, hk, fun w _ => hd w⟩
  cases op with
  | move x => exact ex h fun w => ⟨rfl, Ext.refl w⟩
  | assign x => exact ex h fun w => ⟨rfl, Ext.refl w⟩
  | pick c a b =>
    simp only [qOpU] at h
    split at h
    · rename_i hc; exact ex h fun w => by simp only [dOpU, hc]; first | exact ⟨rfl, Ext.refl w⟩ | exact ⟨trivial, Ext.refl w⟩
    · rename_i hc; exact ex h fun w => by simp only [dOpU, hc]; first | exact ⟨rfl, Ext.refl w⟩ | exact ⟨trivial, Ext.refl w⟩
    · exact h.elim
  | nilCheck x =>
    simp only [qOpU] at h
    split at h
    · rename_i hc; exact ex h fun w => by simp only [dOpU, hc]; first | exact ⟨rfl, Ext.refl w⟩ | exact ⟨trivial, Ext.refl w⟩
    · rename_i hc; exact ex h fun w => by simp only [dOpU, hc]; first | exact ⟨rfl, Ext.refl w⟩ | exact ⟨trivial, Ext.refl w⟩
    · exact h.elim
  | fieldAddr s x f =>
    simp only [qOpU] at h
    split at h
    · rename_i h1 h2 h3
      split at h
      · rename_i h4
        split at h
        · exact h.elim
        · rename_i h5; exact ex h fun w => by simp only [dOpU, h1, h2, h3, h4, h5]; first | exact ⟨rfl, Ext.refl w⟩ | exact ⟨trivial, Ext.refl w⟩
      · exact h.elim
    · exact h.elim
  | indexAddr t x i =>
    simp only [qOpU] at h
    split at h
    · rename_i h1 h2 h3 h4
      cases h with | mk o' hb hk => exact ex hk fun w => by simp only [dOpU, h1, h2, h3, h4]; refine .mk _ hb ?_; first | exact ⟨rfl, Ext.refl w⟩ | exact ⟨trivial, Ext.refl w⟩
    · rename_i h1 h2 h3 h4
      cases h with | mk o' hb hk => exact ex hk fun w => by simp only [dOpU, h1, h2, h3, h4]; refine .mk _ hb ?_; first | exact ⟨rfl, Ext.refl w⟩ | exact ⟨trivial, Ext.refl w⟩
    · rename_i h1 h2
      obtain ⟨v, hk, hr⟩ := h.run
      refine ⟨v, hk, fun w hs => ?_⟩
      show (match inTau t, (tau t).k, ρ.ev x, ρ.ev i with
        | true, .slice _ esz _, .slice (some ⟨b, o, none⟩) n _, .int _ i => BD i n esz o (fun o' => (Value.pointer (some ⟨b, o', none⟩)) = v ∧ Ext w w)
        | true, .arr n _ esz, .pointer (some ⟨b, o, none⟩), .int _ i => BD i n esz o (fun o' => (Value.pointer (some ⟨b, o', none⟩)) = v ∧ Ext w w)
        | _, _, _, _ => RUN (.indexAddr t x i) ty [ρ.ev x, ρ.ev i] w (fun u w' => u = v ∧ Ext w w') (fun _ _ => False))
      split
      · rename_i a b c d; exact (h1 _ _ _ _ _ _ _ _ _ a b c d).elim
      · rename_i a b c d; exact (h2 _ _ _ _ _ _ _ a b c d).elim
      · exact hr w hs
  | binOp o t x y yt =>
    have h : dBin o (ρ.ev x) (ρ.ev y) K (match o with
      | .eql => dEq t (ρ.ev x) (ρ.ev y) (fun b => K (.bool b)) (RUNQ S (.binOp o t x y yt) ty [ρ.ev x, ρ.ev y] K)
      | .neq => dEq t (ρ.ev x) (ρ.ev y) (fun b => K (.bool (!b))) (RUNQ S (.binOp o t x y yt) ty [ρ.ev x, ρ.ev y] K)
      | _ => RUNQ S (.binOp o t x y yt) ty [ρ.ev x, ρ.ev y] K) := by cases o <;> exact h
    have hr0 : RUNQ S (.binOp o t x y yt) ty [ρ.ev x, ρ.ev y] K → ∃ v, K v ∧ ∀ w, S w → RUN (.binOp o t x y yt) ty [ρ.ev x, ρ.ev y] w (fun u w' => u = v ∧ Ext w w') (fun _ _ => False) := fun h => h.run
    have hb := dBin_q (W := S) (RW := fun w v => (match o with
      | .eql => dEq t (ρ.ev x) (ρ.ev y) (fun b => (Value.bool b) = v ∧ Ext w w) (RUN (.binOp o t x y yt) ty [ρ.ev x, ρ.ev y] w (fun u w' => u = v ∧ Ext w w') (fun _ _ => False))
      | .neq => dEq t (ρ.ev x) (ρ.ev y) (fun b => (Value.bool (!b)) = v ∧ Ext w w) (RUN (.binOp o t x y yt) ty [ρ.ev x, ρ.ev y] w (fun u w' => u = v ∧ Ext w w') (fun _ _ => False))
      | _ => RUN (.binOp o t x y yt) ty [ρ.ev x, ρ.ev y] w (fun u w' => u = v ∧ Ext w w') (fun _ _ => False))) (C := fun _ _ _ => True) h (by
        have hq : ∀ (f : Bool → Bool), dEq t (ρ.ev x) (ρ.ev y) (fun b => K (.bool (f b))) (RUNQ S (.binOp o t x y yt) ty [ρ.ev x, ρ.ev y] K) →
            ∃ v, K v ∧ ∀ w, S w → dEq t (ρ.ev x) (ρ.ev y) (fun b => (Value.bool (f b)) = v ∧ Ext w w) (RUN (.binOp o t x y yt) ty [ρ.ev x, ρ.ev y] w (fun u w' => u = v ∧ Ext w w') (fun _ _ => False)) := by
          intro f h
          unfold dEq at h ⊢
          split at h <;> first | exact ⟨_, h, fun w _ => ⟨rfl, Ext.refl w⟩⟩ | exact hr0 h
        cases o <;> first | exact hq id | exact hq (! ·) | exact hr0)
    obtain ⟨v, hk, hd⟩ := hb
    refine ⟨v, hk, fun w hs => ?_⟩
    have hd := hd w hs
    have mono : ∀ {a b : Value} {R : Prop}, dBin o a b (fun u => u = v) R → dBin o a b (fun u => u = v ∧ Ext w w) R := by
      intro a b R h
      unfold dBin at h ⊢
      split at h
      · split at h <;> first
          | (cases h with | mk r hr hk => exact .mk r hr ⟨hk, Ext.refl w⟩)
          | exact h.elim
          | (cases h with
             | yes hc hk => exact .yes hc ⟨hk, Ext.refl w⟩
             | no hc hk => exact .no hc ⟨hk, Ext.refl w⟩)
      · exact h
    exact (by cases o <;> exact mono hd)
  | unOp o t x =>
    cases o with
    | not =>
      simp only [qOpU] at h
      split at h
      · rename_i hc; exact ex h fun w => by simp only [dOpU, hc]; first | exact ⟨rfl, Ext.refl w⟩ | exact ⟨trivial, Ext.refl w⟩
      · exact h.elim
    | _ => obtain ⟨v, hk, hr⟩ := RUNQ.run h; exact ⟨v, hk, hr⟩
  | convert s d x =>
    simp only [qOpU] at h
    split at h
    · rename_i h1 h2 h3 h4 h5
      cases h with | mk r hr hk => exact ex hk fun w => by simp only [dOpU, h1, h2, h3, h4, h5]; exact .mk _ hr ⟨rfl, Ext.refl w⟩
    · rename_i h1
      obtain ⟨v, hk, hr⟩ := h.run
      refine ⟨v, hk, fun w hs => ?_⟩
      show (match inTau s, inTau d, (tau d).k, (tau s).k, ρ.ev x with
        | true, true, .int k, .int _, .int _ n => CVI k n (fun r => (Value.int k r) = v ∧ Ext w w)
        | _, _, _, _, v' => RUN (.convert s d x) ty [v'] w (fun u w' => u = v ∧ Ext w w') (fun _ _ => False))
      split
      · rename_i a b c d e; exact (h1 _ _ _ _ a b c d e).elim
      · exact hr w hs
  | makeInterface t x =>
    simp only [qOpU] at h
    split at h
    · exact h.elim
    · exact h.elim
    · rename_i h1 h3 h4
      refine ex h fun w => ?_
      show (match inTau t, (tau t).k with
        | true, .iface => False
        | true, .other => False
        | true, _ => (Value.iface t (ρ.ev x)) = (Value.iface t (ρ.ev x)) ∧ Ext w w
        | _, _ => False)
      split <;> first | exact ⟨rfl, Ext.refl w⟩ | (exfalso; simp_all; done)
    · exact h.elim
  | makeFunc fn a c => exact ex h fun w => ⟨rfl, Ext.refl w⟩
  | build t ps =>
    simp only [qOpU] at h
    split at h
    · rename_i h1 h2 h3
      split at h
      · rename_i h4; exact ex h fun w => by simp only [dOpU, h1, h2, h3]; rw [h4]; exact ⟨rfl, Ext.refl w⟩
      · exact h.elim
    · rename_i h1
      obtain ⟨v, hk, hr⟩ := h.run
      refine ⟨v, hk, fun w hs => ?_⟩
      show (match inTau t, (tau t).k, (tau t).zero with
        | true, .struct fs, some z => (match fillL (plc fs) z (ρ.evp ps.toList) with
          | some cs => (Value.agg cs.toArray) = v ∧ Ext w w
          | none => False)
        | _, _, _ => RUN (.build t ps) ty (ρ.evp ps.toList |>.map (·.2)) w (fun u w' => u = v ∧ Ext w w') (fun _ _ => False))
      split
      · rename_i a b c; exact (h1 _ _ a b c).elim
      · exact hr w hs
  | field t x f =>
    simp only [qOpU] at h
    split at h
    · rename_i h1 h2 h3
      split at h
      · rename_i h4
        split at h
        · rename_i h5 h6 h7
          split at h
          · exact h.elim
          · rename_i h8
            refine ex h fun w => ?_
            simp only [dOpU, h1, h2, h3, h4, h5, h6, h7]
            exact ⟨trivial, Ext.refl w⟩
        · exact h.elim
      · exact h.elim
    · exact h.elim
  | extract x i =>
    simp only [qOpU] at h
    split at h
    · rename_i h1
      split at h
      · rename_i h2; exact ex h fun w => by simp only [dOpU, h1, h2]; first | exact ⟨rfl, Ext.refl w⟩ | exact ⟨trivial, Ext.refl w⟩
      · exact h.elim
    · exact h.elim
  | call c =>
    obtain ⟨callee, args, argTypes⟩ := c
    cases callee with
    | value f =>
      simp only [qOpU] at h
      split at h
      · rename_i h1
        cases h with
        | mk v hc hr hk =>
          refine ⟨v, hk, fun w hs => ?_⟩
          simp only [dOpU, h1]
          refine .mk hc ((hr w hs).mono fun e w' hq => ?_)
          obtain ⟨rfl, hx⟩ := hq
          exact ⟨rfl, hx⟩
        | ext v hr hk =>
          refine ⟨v, hk, fun w hs => ?_⟩
          simp only [dOpU, h1]
          exact .ext v w (hr w hs) ⟨rfl, Ext.refl w⟩
      · exact h.elim
    | invoke r name => exact h.elim
    | builtin b =>
      cases b
      case len =>
        simp only [qOpU] at h
        split at h
        · rename_i b n c' t h1 h2
          split at h
          · rename_i h3 h4
            cases h with | mk r hr hk => exact ex hk fun w => by simp only [dOpU, h1, h2, h3, h4]; exact .mk r hr (by first | exact ⟨rfl, Ext.refl w⟩ | exact ⟨trivial, Ext.refl w⟩)
          · rename_i h3
            obtain ⟨v, hk, hr⟩ := h.run
            refine ⟨v, hk, fun w hs => ?_⟩
            show (match ρ.evs args.toList, argTypes.toList with
            | [.slice b n c'], [t] => (match inTau t, isSl (tau t).k with | true, true => LEN n (fun r => (Value.int .i64 r) = v ∧ Ext w w) | _, _ => RUN (.call ⟨.builtin .len, args, argTypes⟩) ty [.slice b n c'] w (fun u w' => u = v ∧ Ext w w') (fun _ _ => False))
            | vs, _ => RUN (.call ⟨.builtin .len, args, argTypes⟩) ty vs w (fun u w' => u = v ∧ Ext w w') (fun _ _ => False))
            rw [h1, h2]
            show (match inTau t, isSl (tau t).k with | true, true => LEN n (fun r => (Value.int .i64 r) = v ∧ Ext w w) | _, _ => RUN (.call ⟨.builtin .len, args, argTypes⟩) ty [.slice b n c'] w (fun u w' => u = v ∧ Ext w w') (fun _ _ => False))
            split
            · rename_i a b; exact (h3 a b).elim
            · exact hr w hs
        · rename_i h1
          obtain ⟨v, hk, hr⟩ := h.run
          refine ⟨v, hk, fun w hs => ?_⟩
          show (match ρ.evs args.toList, argTypes.toList with
            | [.slice b n c'], [t] => (match inTau t, isSl (tau t).k with | true, true => LEN n (fun r => (Value.int .i64 r) = v ∧ Ext w w) | _, _ => RUN (.call ⟨.builtin .len, args, argTypes⟩) ty [.slice b n c'] w (fun u w' => u = v ∧ Ext w w') (fun _ _ => False))
            | vs, _ => RUN (.call ⟨.builtin .len, args, argTypes⟩) ty vs w (fun u w' => u = v ∧ Ext w w') (fun _ _ => False))
          split
          · rename_i a b; exact (h1 _ _ _ _ a b).elim
          · exact hr w hs
      all_goals (obtain ⟨v, hk, hr⟩ := RUNQ.run h; exact ⟨v, hk, hr⟩)
  | load t x => obtain ⟨v, hk, hr⟩ := RUNQ.run h; exact ⟨v, hk, hr⟩
  | index t x i => obtain ⟨v, hk, hr⟩ := RUNQ.run h; exact ⟨v, hk, hr⟩
  | lookup t x i ok => obtain ⟨v, hk, hr⟩ := RUNQ.run h; exact ⟨v, hk, hr⟩
  | typeAssert x a b c => obtain ⟨v, hk, hr⟩ := RUNQ.run h; exact ⟨v, hk, hr⟩
  | slice t x lo hi mx =>
    cases mx with
    | none => obtain ⟨v, hk, hr⟩ := RUNQ.run h; exact ⟨v, hk, hr⟩
    | some _ => exact h.elim
  | _ => exact h.elim
theorem qOp_q {S : World → Prop} (op : Op) (ty : TypeId) (ρ : Fr) (K : Value → Prop) (h : qOp S op ty ρ K) :
    ∃ v, K v ∧ ∀ w, S w → dOp op ty ρ w (fun u w' => u = v ∧ Ext w w') (fun _ _ => False) := by
  rw [qOp_eq] at h
  obtain ⟨v, h1, h2⟩ := qOpU_q op ty ρ K h
  exact ⟨v, h1, fun w hs => by rw [dOp_eq]; exact h2 w hs⟩

/-- How an operation of the head is taken: it only looks; it acts, and S stays; it acts behind all that was listed. -/
inductive Tk | q | s | f
/-- A region's walk in an order of one's own; behind it the tail, in its own order. -/
def dDrawF (n : Nat) (ops : Array Oper) (x : Nat × Tk) (_ : List (Nat × Tk)) (ih : (World → Prop) → Fr → List Deferred → World → (Exit → Fr → List Deferred → World → Prop) → Prop) (S : World → Prop) (ρ : Fr) (ds : List Deferred) (w : World) (K : Exit → Fr → List Deferred → World → Prop) : Prop :=
  match nth ops.toList x.1 with
    | none => False
    | some o => match wantedF ops.toList ρ o.guard with
      | none => False
      | some false => ih S (ρ.put n o.dst undef) ds w K
      | some true => match x.2 with
        | .q => qOp (match pureOp o.op with | true => fun _ => True | false => S) o.op o.type ρ (fun v => f2 v fun v => ih S (ρ.put n o.dst v) ds w K)
        | .s => ∀ w', Ext w w' → S w' → dOp o.op o.type ρ w' (fun v w'' => S w'' ∧ f2 v fun v => ih S (ρ.put n o.dst v) ds w'' K) (fun c w'' => K (.panic c) ρ ds w'')
        | .f => ∀ w', Ext w w' → S w' → dOp o.op o.type ρ w' (fun v w'' => f2 v fun v => ih (Ext w'') (ρ.put n o.dst v) ds w'' K) (fun c w'' => K (.panic c) ρ ds w'')
def dDraw (n : Nat) (ops : Array Oper) (tail : List Oper) (l : List (Nat × Tk)) : (World → Prop) → Fr → List Deferred → World → (Exit → Fr → List Deferred → World → Prop) → Prop :=
  List.rec (motive := fun _ => (World → Prop) → Fr → List Deferred → World → (Exit → Fr → List Deferred → World → Prop) → Prop) (fun _ ρ ds w K => ∀ w', Ext w w' → dOps n ops.toList tail ρ ds w' K) (dDrawF n ops) l
theorem dDraw_cons (n : Nat) (ops : Array Oper) (S : World → Prop) (tail : List Oper) (i : Nat) (b : Tk) (r : List (Nat × Tk)) (ρ : Fr) (ds : List Deferred) (w : World) (K : Exit → Fr → List Deferred → World → Prop) :
    dDraw n ops tail ((i, b) :: r) S ρ ds w K = dDrawF n ops (i, b) r (dDraw n ops tail r) S ρ ds w K := rfl

def ordB (ops : Array Oper) (m : Nat) : List (Nat × Tk) → Array Bool → Bool
  | [], listed => Region.seqB .any ops (ops.size - m) m listed
  | (i, .q) :: r, listed => Nat.blt i m && (Region.ready .any ops listed).contains i && Region.free .any ops listed i && ordB ops m r (listed.setIfInBounds i true)
  | (i, .s) :: r, listed => Nat.blt i m && decide (Region.ready .any ops listed = [i]) && ordB ops m r (listed.setIfInBounds i true)
  | (i, .f) :: r, listed => Nat.blt i m && decide (Region.ready .any ops listed = [i]) && forcedB ops m listed i && ordB ops m r (listed.setIfInBounds i true)
def drawB (ops : Array Oper) (m : Nat) (ord : List (Nat × Tk)) : Bool :=
  Region.noSelect ops && Nat.ble m ops.size && tailB ops m && Nat.beq ord.length m && ordB ops m ord (Array.replicate ops.size false)

def QL (n : Nat) (K : Exit → Fr → List Deferred → World → Prop) : Exit → Act → World → Prop
  | .panic c, a, w => a.tmps.size = n ∧ ∃ ρ, K (.panic c) ρ a.defers w
  | e, a, w => Lift n K e a w
theorem QL_of {n : Nat} {K : Exit → Fr → List Deferred → World → Prop} {e : Exit} {a : Act} {w : World} (h : Lift n K e a w) : QL n K e a w := by
  cases e with
  | panic c => obtain ⟨ρ, hr, hk⟩ := h; exact ⟨hr.size, ρ, hk⟩
  | _ => exact h

theorem wpList_mono {ops : Array Oper} {Q Q' : Exit → Act → World → Prop} (hq : ∀ e a w, Q e a w → Q' e a w) : ∀ (l : List Oper) (a : Act) (w : World), wpList PP ops Q l a w → wpList PP ops Q' l a w
  | [], a, w, h => hq _ _ _ h
  | o :: rest, a, w, h => by
    unfold wpList at h ⊢
    split at h
    · rename_i hw
      rw [if_pos hw]
      rcases h with h | ⟨h, a0, w0, hl⟩
      · refine .inl ?_
        unfold Oper.wp at h ⊢
        generalize (execOp a.eval o).run PP w = r at *
        cases r with
        | ok n w' =>
          cases n <;> simp only [Oper.upon] at h ⊢
          case value u => exact wpList_mono hq rest _ _ h
          case skip => exact wpList_mono hq rest _ _ h
          case defer d => exact wpList_mono hq rest _ _ h
          case enter f args =>
            refine Calls.mono h fun e w'' he => ?_
            cases e with
            | returned u => exact wpList_mono hq rest _ _ he
            | panicked c => exact hq _ _ _ he
            | outgrown => obtain ⟨a0, w0, hl⟩ := he; exact ⟨a0, w0, hq _ _ _ hl⟩
          case row row args => exact Rows.mono h fun u w'' he => wpList_mono hq rest _ _ he
        | halt x w' =>
          cases x <;> simp only [Oper.upon] at h ⊢
          case panic u => exact hq _ _ _ h
      · exact .inr ⟨h, a0, w0, hq _ _ _ hl⟩
    · rename_i hw
      rw [if_neg hw]
      exact wpList_mono hq rest _ _ h

theorem dDraw_sound {n m : Nat} {ops : Array Oper} {K : Exit → Fr → List Deferred → World → Prop} (hsel : Region.noSelect ops = true) (hT : tailB ops m = true) :
    ∀ (ord : List (Nat × Tk)) (S : World → Prop) (hS : Up S) (listed : Array Bool) (ρ : Fr) (ds : List Deferred) (w : World) (a : Act),
    ordB ops m ord listed = true → HeadInv .any ops m listed → dDraw n ops (ops.toList.drop m) ord S ρ ds w K → Rel n ρ a → a.defers = ds →
    wpE ops (QL n K) m (fun listed a w => Region.seqB .any ops (ops.size - m) m listed = true ∧ wpList PP ops (QL n K) (ops.toList.drop m) a w) ord.length S listed a w
  | [], S, hS, listed, ρ, ds, w, a, hB, inv, h, hr, hd => fun w' hw => ⟨hB, wpList_mono (fun _ _ _ => QL_of) _ _ _ (dOps_sound ops K _ ρ ds w' a (h w' hw) hr hd)⟩
  | (i, b) :: r, S, hS, listed, ρ, ds, w, a, hB, inv, h, hr, hd => by
    have hdone : ∀ (listed : Array Bool) (a : Act) (w : World), (Region.seqB .any ops (ops.size - m) m listed = true ∧ wpList PP ops (QL n K) (ops.toList.drop m) a w) → ∀ j ∈ Region.ready .any ops listed, m ≤ j := fun listed a w hL => seqB_ready hL.1
    simp only [dDraw_cons, dDrawF, f2_eq] at h
    rw [nth_eq] at h
    have htl : ops.toList[i]? = ops[i]? := by simp
    rw [htl] at h
    cases ho : ops[i]? with
    | none => rw [ho] at h; exact h.elim
    | some o =>
      rw [ho] at h
      simp only at h
      have hput : ∀ v, (a.put o.dst v).defers = ds := fun v => by cases hdst : o.dst <;> simp [Act.put, hd]
      have hQ : ∀ (v : Value) c (a : Act) w, QL n K (.panic c) (a.put o.dst v) w → QL n K (.panic c) a w := by
        intro v c a w hq
        obtain ⟨h1, ρ', h2⟩ := hq
        refine ⟨?_, ρ', ?_⟩
        · cases hdst : o.dst <;> simp [Act.put, hdst] at h1 <;> exact h1
        · cases hdst : o.dst <;> simp [Act.put, hdst] at h2 <;> exact h2
      cases hw : wantedF ops.toList ρ o.guard with
      | none => rw [hw] at h; exact h.elim
      | some bw =>
        rw [hw] at h
        have hwd := wantedF_eq hr hw
        have take : ∀ v, ordB ops m r (listed.setIfInBounds i true) = true → i ∈ Region.ready .any ops listed → Region.free .any ops listed i = true → i < m → ((pureOp o.op = false ∧ ∀ w, S w → YE ops o v a w) ∨ (∀ w, YE ops o v a w)) → dDraw n ops (ops.toList.drop m) r S (ρ.put n o.dst v) ds w K →
            wpE ops (QL n K) m (fun listed a w => Region.seqB .any ops (ops.size - m) m listed = true ∧ wpList PP ops (QL n K) (ops.toList.drop m) a w) (r.length + 1) S listed a w := by
          intro v hB' hrd hfree him hy hnext
          exact wpE_take ho hsel hT him hdone (hQ v) r.length S listed a w hS inv (Region.free_spec ho hfree) hrd hy
            (dDraw_sound hsel hT r S hS _ _ ds w _ hB' (inv.set hrd him) hnext (hr.put o.dst v) (hput v))
        cases b with
        | q =>
          simp only [ordB, Bool.and_eq_true] at hB
          obtain ⟨⟨⟨h1, h2⟩, h3⟩, h4⟩ := hB
          have him : i < m := by simpa [Nat.blt_eq] using h1
          have hrd : i ∈ Region.ready .any ops listed := by simpa using h2
          cases bw with
          | false => exact take undef h4 hrd h3 him (.inr fun w => .inr ⟨hwd, rfl⟩) h
          | true =>
            obtain ⟨v, hk, hv⟩ := qOp_q _ _ _ _ h
            refine take v h4 hrd h3 him ?_ hk
            cases hp : pureOp o.op with
            | true =>
              rw [hp] at hv
              refine .inr fun w => .inl ⟨hwd, ?_⟩
              rw [hr.ev]
              exact dOp_res o ρ w _ _ (hv w trivial)
            | false =>
              rw [hp] at hv
              refine .inl ⟨rfl, fun w hs => .inl ⟨hwd, ?_⟩⟩
              rw [hr.ev]
              exact dOp_res o ρ w _ _ (hv w hs)
        | s =>
          simp only [ordB, Bool.and_eq_true, decide_eq_true_eq] at hB
          obtain ⟨⟨h1, h2⟩, h4⟩ := hB
          have him : i < m := by simpa [Nat.blt_eq] using h1
          have hrd : i ∈ Region.ready .any ops listed := by rw [h2]; simp
          refine wpE_loud h2 him fun w' hww hs => ?_
          unfold wpOp
          simp only [ho]
          cases bw with
          | false =>
            rw [if_neg (by rw [hwd]; simp)]
            exact .inl ⟨hs, wpE_ext hww (dDraw_sound hsel hT r S hS _ _ ds w _ h4 (inv.set hrd him) h (hr.put o.dst undef) (hput undef))⟩
          | true =>
            rw [if_pos hwd]
            refine .inl ?_
            unfold Oper.wp
            have h5 := dOp_res o ρ w' _ _ (h w' hww hs)
            rw [← hr.ev] at h5
            exact upon_of_res h5 (fun v w'' ⟨hs', hk⟩ => .inl ⟨hs', dDraw_sound hsel hT r S hS _ _ ds w'' _ h4 (inv.set hrd him) hk (hr.put o.dst v) (hput v)⟩)
              (fun c w'' hx => ⟨hr.size, ρ, by rw [hd]; exact hx⟩)
        | f =>
          simp only [ordB, Bool.and_eq_true, decide_eq_true_eq] at hB
          obtain ⟨⟨⟨h1, h2⟩, h3⟩, h4⟩ := hB
          have him : i < m := by simpa [Nat.blt_eq] using h1
          have hrd : i ∈ Region.ready .any ops listed := by rw [h2]; simp
          refine wpE_loud h2 him fun w' hww hs => ?_
          unfold wpOp
          simp only [ho]
          cases bw with
          | false =>
            rw [if_neg (by rw [hwd]; simp)]
            exact .inl ⟨hs, wpE_ext hww (dDraw_sound hsel hT r S hS _ _ ds w _ h4 (inv.set hrd him) h (hr.put o.dst undef) (hput undef))⟩
          | true =>
            rw [if_pos hwd]
            refine .inl ?_
            unfold Oper.wp
            have h5 := dOp_res o ρ w' _ _ (h w' hww hs)
            rw [← hr.ev] at h5
            exact upon_of_res h5 (fun v w'' hk => .inr ⟨h3, Ext w'', fun _ _ h h' => h.trans' h', Ext.refl w'', dDraw_sound hsel hT r (Ext w'') (fun _ _ h h' => h.trans' h') _ _ ds w'' _ h4 (inv.set hrd him) hk (hr.put o.dst v) (hput v)⟩)
              (fun c w'' hx => ⟨hr.size, ρ, by rw [hd]; exact hx⟩)

theorem follows_ok : PP.follows .mixedOrders = true := by kernel_rfl

theorem DRAW.of {n id : Nat} {ops : Array Oper} {ρ : Fr} {ds : List Deferred} {w : World} {K : Exit → Fr → List Deferred → World → Prop} (m : Nat) (ord : List (Nat × Tk)) (S : World → Prop)
    (hB : drawB ops m ord = true) (hK : ∀ c ρ ρ' ds w, K (.panic c) ρ ds w → K (.panic c) ρ' ds w) (hS : ∀ w w', S w → Ext w w' → S w') (hS0 : S w)
    (h : dDraw n ops (ops.toList.drop m) ord S ρ ds w K) : DRAW n id ops ρ ds w K := by
  simp only [drawB, Bool.and_eq_true] at hB
  obtain ⟨⟨⟨⟨hsel, hm⟩, hT⟩, hl⟩, hB⟩ := hB
  have hm' := Nat.le_of_ble_eq_true hm
  have hl' := Nat.eq_of_beq_eq_true hl
  refine ⟨fun a hr hd => ?_⟩
  have hdrew : Ext w { w with drawn := w.drawn + 1 } := ⟨Nat.le_refl _, fun _ _ _ => rfl, rfl, rfl⟩
  have inv0 : HeadInv .any ops m (Array.replicate ops.size false) :=
    ⟨by simp, fun j oj _ hl => (by rw [getD_replicate_false] at hl; cases hl), fun t _ ht => getD_in (by simpa using ht) (getD_replicate_false _ _)⟩
  have H := wpE_ext hdrew (dDraw_sound (n := n) (K := K) hsel hT ord S hS _ ρ ds w a hB inv0 h hr hd)
  have hdl : (ops.toList.drop m).length = ops.size - m := by simp
  have H2 := wpAny_of_E (g := ops.size - m) (fun listed a' w' hL => by
    have := wpAny_of_seq (md := .any) (Q' := QL n K) (ops.toList.drop m) m listed a' w' (fun j => by simp [List.getElem?_drop]) (by rw [hdl]; exact hL.1) hL.2
    rwa [hdl] at this) _ _ _ _ _ (hS _ _ hS0 hdrew) H
  rw [hl', show m + (ops.size - m) = ops.size by omega] at H2
  have hw := wp_region_any (id := id) follows_ok H2
  refine Code.wp_mono (fun e a' w' hq => ?_) hw
  cases e with
  | panic c =>
    obtain ⟨h1, ρ', h2⟩ := hq
    exact ⟨.base fun t => a'.tmps.getD t undef, ⟨h1, fun t => rfl⟩, hK _ _ _ _ _ h2⟩
  | _ => exact hq

/-- These blocks stay as they are in w. -/
def Keep (w : World) (bs : List Nat) (w' : World) : Prop := w.heap.size ≤ w'.heap.size ∧ ∀ b ∈ bs, b < w.heap.size → w'.heap[b]? = w.heap[b]?
theorem Keep.refl (w : World) (bs : List Nat) : Keep w bs w := ⟨Nat.le_refl _, fun _ _ _ => rfl⟩
theorem Keep.ext (w : World) (bs : List Nat) (w1 w2 : World) (h : Keep w bs w1) (he : Ext w1 w2) : Keep w bs w2 :=
  ⟨Nat.le_trans h.1 he.size, fun b hb hl => (he.old b (Nat.lt_of_lt_of_le hl h.1) id).trans (h.2 b hb hl)⟩
theorem Keep.at {w w' : World} {bs : List Nat} {b : Nat} {o : Obj} (h : Keep w bs w') (hb : b ∈ bs) (ha : At w b o) : At w' b o := (h.2 b hb ha.lt).trans ha
theorem Keep.ch {w w1 w2 : World} {bs : List Nat} {S : Nat → Prop} (h : Keep w bs w1) (hc : Ch S w1 w2) (hd : ∀ b ∈ bs, b < w.heap.size → ¬ S b) : Keep w bs w2 :=
  ⟨Nat.le_trans h.1 hc.size, fun b hb hl => (hc.old b (Nat.lt_of_lt_of_le hl h.1) (hd b hb hl)).trans (h.2 b hb hl)⟩
end Go.E
end
