/- Regions in which two operations that act are free of one another: both orders. -/
import Derived.Test.YtnbekdcepnfpaaaGreatDoorG04
import Derived.Test.YtnbekdcepnfpaaaGreatDoorG10
import Derived.Test.YtnbekdcepnfpaaaGreatDoorG16
set_option linter.unusedVariables false
set_option linter.unusedSimpArgs false
set_option maxRecDepth 10000
noncomputable section
namespace Go.E
open Go

inductive Tr where
  | nil
  | q (i : Nat) (t : Tr)
  | s (i : Nat) (t : Tr)
  | b (i j : Nat) (ti tj : Tr)
def Tr.len : Tr → Nat
  | .nil => 0
  | .q _ t => t.len + 1
  | .s _ t => t.len + 1
  | .b _ _ ti _ => ti.len + 1
/-- One operation that acts. -/
def dAct (n : Nat) (ops : Array Oper) (i : Nat) (ih : Fr → List Deferred → World → Prop) (S : World → Prop) (ρ : Fr) (ds : List Deferred) (w : World) (X : List PanicEntry → World → Prop) : Prop :=
  match nth ops.toList i with
  | none => False
  | some o => match wantedF ops.toList ρ o.guard with
    | none => False
    | some false => ih (ρ.put n o.dst undef) ds w
    | some true => ∀ w', Ext w w' → S w' → dOp o.op o.type ρ w' (fun v w'' => S w'' ∧ f2 v fun v => ih (ρ.put n o.dst v) ds w'') (fun c w'' => X c w'')
def dTree (n : Nat) (ops : Array Oper) (tail : List Oper) (S : World → Prop) (K : Exit → Fr → List Deferred → World → Prop) (t : Tr) : Fr → List Deferred → World → Prop :=
  Tr.rec (motive := fun _ => Fr → List Deferred → World → Prop)
    (fun ρ ds w => ∀ w', Ext w w' → dOps n ops.toList tail ρ ds w' K)
    (fun i _ ih ρ ds w => match nth ops.toList i with
      | none => False
      | some o => match wantedF ops.toList ρ o.guard with
        | none => False
        | some false => ih (ρ.put n o.dst undef) ds w
        | some true => qOp (match pureOp o.op with | true => fun _ => True | false => S) o.op o.type ρ (fun v => f2 v fun v => ih (ρ.put n o.dst v) ds w))
    (fun i _ ih ρ ds w => dAct n ops i ih S ρ ds w (fun c w'' => K (.panic c) ρ ds w''))
    (fun i j _ _ ihi ihj ρ ds w => dAct n ops i ihi S ρ ds w (fun c w'' => K (.panic c) ρ ds w'') ∧ dAct n ops j ihj S ρ ds w (fun c w'' => K (.panic c) ρ ds w'')) t
def trB (ops : Array Oper) (m : Nat) : Tr → Array Bool → Bool
  | .nil, listed => Region.seqB .any ops (ops.size - m) m listed
  | .q i t, listed => Nat.blt i m && (Region.ready .any ops listed).contains i && Region.free .any ops listed i && trB ops m t (listed.setIfInBounds i true)
  | .s i t, listed => Nat.blt i m && decide (Region.ready .any ops listed = [i]) && trB ops m t (listed.setIfInBounds i true)
  | .b i j ti tj, listed => Nat.blt i m && Nat.blt j m && decide (Region.ready .any ops listed = [i, j]) && Nat.beq ti.len tj.len && trB ops m ti (listed.setIfInBounds i true) && trB ops m tj (listed.setIfInBounds j true)
def treeB (ops : Array Oper) (m : Nat) (t : Tr) : Bool :=
  Region.noSelect ops && Nat.ble m ops.size && tailB ops m && Nat.beq t.len m && trB ops m t (Array.replicate ops.size false)

theorem dTree_sound {n m : Nat} {ops : Array Oper} {K : Exit → Fr → List Deferred → World → Prop} (hsel : Region.noSelect ops = true) (hT : tailB ops m = true) (S : World → Prop) (hS : Up S) :
    ∀ (t : Tr) (listed : Array Bool) (ρ : Fr) (ds : List Deferred) (w : World) (a : Act),
    trB ops m t listed = true → HeadInv .any ops m listed → dTree n ops (ops.toList.drop m) S K t ρ ds w → Rel n ρ a → a.defers = ds →
    wpE ops (QL n K) m (fun listed a w => Region.seqB .any ops (ops.size - m) m listed = true ∧ wpList PP ops (QL n K) (ops.toList.drop m) a w) t.len S listed a w := by
  intro t
  have hdone : ∀ (listed : Array Bool) (a : Act) (w : World), (Region.seqB .any ops (ops.size - m) m listed = true ∧ wpList PP ops (QL n K) (ops.toList.drop m) a w) → ∀ j ∈ Region.ready .any ops listed, m ≤ j := fun listed a w hL => seqB_ready hL.1
  have act : ∀ (i : Nat) (t : Tr) (ih : ∀ (listed : Array Bool) (ρ : Fr) (ds : List Deferred) (w : World) (a : Act),
      trB ops m t listed = true → HeadInv .any ops m listed → dTree n ops (ops.toList.drop m) S K t ρ ds w → Rel n ρ a → a.defers = ds →
      wpE ops (QL n K) m (fun listed a w => Region.seqB .any ops (ops.size - m) m listed = true ∧ wpList PP ops (QL n K) (ops.toList.drop m) a w) t.len S listed a w)
      (listed : Array Bool) (ρ : Fr) (ds : List Deferred) (w : World) (a : Act), trB ops m t (listed.setIfInBounds i true) = true → HeadInv .any ops m (listed.setIfInBounds i true) →
      dAct n ops i (dTree n ops (ops.toList.drop m) S K t) S ρ ds w (fun c w'' => K (.panic c) ρ ds w'') → Rel n ρ a → a.defers = ds → ∀ w', Ext w w' → S w' →
      wpOp PP ops (QL n K) i (fun a' w'' => (S w'' ∧ wpE ops (QL n K) m (fun listed a w => Region.seqB .any ops (ops.size - m) m listed = true ∧ wpList PP ops (QL n K) (ops.toList.drop m) a w) t.len S (listed.setIfInBounds i true) a' w'') ∨
        (forcedB ops m listed i = true ∧ ∃ S', Up S' ∧ S' w'' ∧ wpE ops (QL n K) m (fun listed a w => Region.seqB .any ops (ops.size - m) m listed = true ∧ wpList PP ops (QL n K) (ops.toList.drop m) a w) t.len S' (listed.setIfInBounds i true) a' w'')) a w' := by
    intro i t ih listed ρ ds w a hB inv h hr hd w' hww hs
    unfold dAct at h
    simp only [f2_eq] at h
    rw [nth_eq] at h
    have htl : ops.toList[i]? = ops[i]? := by simp
    rw [htl] at h
    unfold wpOp
    cases ho : ops[i]? with
    | none => rw [ho] at h; exact h.elim
    | some o =>
      rw [ho] at h
      simp only at h ⊢
      have hput : ∀ v, (a.put o.dst v).defers = ds := fun v => by cases hdst : o.dst <;> simp [Act.put, hd]
      cases hw : wantedF ops.toList ρ o.guard with
      | none => rw [hw] at h; exact h.elim
      | some bw =>
        rw [hw] at h
        have hwd := wantedF_eq hr hw
        cases bw with
        | false =>
          rw [if_neg (by rw [hwd]; simp)]
          exact .inl ⟨hs, wpE_ext hww (ih _ _ ds w _ hB inv h (hr.put o.dst undef) (hput undef))⟩
        | true =>
          rw [if_pos hwd]
          refine .inl ?_
          unfold Oper.wp
          have h5 := dOp_res o ρ w' _ _ (h w' hww hs)
          rw [← hr.ev] at h5
          exact upon_of_res h5 (fun v w'' ⟨hs', hk⟩ => .inl ⟨hs', ih _ _ ds w'' _ hB inv hk (hr.put o.dst v) (hput v)⟩)
            (fun c w'' hx => ⟨hr.size, ρ, by rw [hd]; exact hx⟩)
  induction t with
  | nil => exact fun listed ρ ds w a hB inv h hr hd => fun w' hw => ⟨hB, wpList_mono (fun _ _ _ => QL_of) _ _ _ (dOps_sound ops K _ ρ ds w' a (h w' hw) hr hd)⟩
  | q i t ih =>
    intro listed ρ ds w a hB inv h hr hd
    simp only [trB, Bool.and_eq_true] at hB
    obtain ⟨⟨⟨h1, h2⟩, h3⟩, h4⟩ := hB
    have him : i < m := by simpa [Nat.blt_eq] using h1
    have hrd : i ∈ Region.ready .any ops listed := by simpa using h2
    have h : (match nth ops.toList i with
      | none => False
      | some o => match wantedF ops.toList ρ o.guard with
        | none => False
        | some false => dTree n ops (ops.toList.drop m) S K t (ρ.put n o.dst undef) ds w
        | some true => qOp (match pureOp o.op with | true => fun _ => True | false => S) o.op o.type ρ (fun v => f2 v fun v => dTree n ops (ops.toList.drop m) S K t (ρ.put n o.dst v) ds w)) := h
    simp only [f2_eq] at h
    rw [nth_eq] at h
    have htl : ops.toList[i]? = ops[i]? := by simp
    rw [htl] at h
    cases ho : ops[i]? with
    | none => rw [ho] at h; exact h.elim
    | some o =>
      rw [ho] at h
      simp only at h
      have hput : ∀ v, (a.put o.dst v).defers = ds := fun v => by cases hdst : o.dst <;> simp [Act.put, hd]
      have hQ : ∀ (v : Value) c (a : Act) w, QL n K (.panic c) (a.put o.dst v) w → QL n K (.panic c) a w := by
        intro v c a w hq
        obtain ⟨h1, ρ', h2⟩ := hq
        refine ⟨?_, ρ', ?_⟩
        · cases hdst : o.dst <;> simp [Act.put, hdst] at h1 <;> exact h1
        · cases hdst : o.dst <;> simp [Act.put, hdst] at h2 <;> exact h2
      cases hw : wantedF ops.toList ρ o.guard with
      | none => rw [hw] at h; exact h.elim
      | some bw =>
        rw [hw] at h
        have hwd := wantedF_eq hr hw
        have take : ∀ v, ((pureOp o.op = false ∧ ∀ w, S w → YE ops o v a w) ∨ (∀ w, YE ops o v a w)) → dTree n ops (ops.toList.drop m) S K t (ρ.put n o.dst v) ds w →
            wpE ops (QL n K) m (fun listed a w => Region.seqB .any ops (ops.size - m) m listed = true ∧ wpList PP ops (QL n K) (ops.toList.drop m) a w) (t.len + 1) S listed a w := by
          intro v hy hnext
          exact wpE_take ho hsel hT him hdone (hQ v) t.len S listed a w hS inv (Region.free_spec ho h3) hrd hy
            (ih _ _ ds w _ h4 (inv.set hrd him) hnext (hr.put o.dst v) (hput v))
        cases bw with
        | false => exact take undef (.inr fun w => .inr ⟨hwd, rfl⟩) h
        | true =>
          obtain ⟨v, hk, hv⟩ := qOp_q _ _ _ _ h
          refine take v ?_ hk
          cases hp : pureOp o.op with
          | true =>
            rw [hp] at hv
            refine .inr fun w => .inl ⟨hwd, ?_⟩
            rw [hr.ev]
            exact dOp_res o ρ w _ _ (hv w trivial)
          | false =>
            rw [hp] at hv
            refine .inl ⟨rfl, fun w hs => .inl ⟨hwd, ?_⟩⟩
            rw [hr.ev]
            exact dOp_res o ρ w _ _ (hv w hs)
  | s i t ih =>
    intro listed ρ ds w a hB inv h hr hd
    simp only [trB, Bool.and_eq_true, decide_eq_true_eq] at hB
    obtain ⟨⟨h1, h2⟩, h4⟩ := hB
    have him : i < m := by simpa [Nat.blt_eq] using h1
    have hrd : i ∈ Region.ready .any ops listed := by rw [h2]; simp
    exact wpE_loud h2 him fun w' hww hs => act i t ih listed ρ ds w a h4 (inv.set hrd him) h hr hd w' hww hs
  | b i j ti tj ihi ihj =>
    intro listed ρ ds w a hB inv h hr hd
    simp only [trB, Bool.and_eq_true, decide_eq_true_eq] at hB
    obtain ⟨⟨⟨⟨⟨h1, h1'⟩, h2⟩, hl⟩, h4⟩, h5⟩ := hB
    have him : i < m := by simpa [Nat.blt_eq] using h1
    have hjm : j < m := by simpa [Nat.blt_eq] using h1'
    have hlen := Nat.eq_of_beq_eq_true hl
    have hrdi : i ∈ Region.ready .any ops listed := by rw [h2]; simp
    have hrdj : j ∈ Region.ready .any ops listed := by rw [h2]; simp
    obtain ⟨ha, hb⟩ := h
    refine ⟨by rw [h2]; simp, fun k hk => ?_⟩
    rw [h2] at hk
    simp only [List.mem_cons, List.not_mem_nil, or_false] at hk
    rcases hk with rfl | rfl
    · exact ⟨him, fun w' hww hs => act k ti ihi listed ρ ds w a h4 (inv.set hrdi him) ha hr hd w' hww hs⟩
    · refine ⟨hjm, fun w' hww hs => ?_⟩
      have := act k tj ihj listed ρ ds w a h5 (inv.set hrdj hjm) hb hr hd w' hww hs
      rwa [← hlen] at this
theorem DRAW.tr {n id : Nat} {ops : Array Oper} {ρ : Fr} {ds : List Deferred} {w : World} {K : Exit → Fr → List Deferred → World → Prop} (m : Nat) (t : Tr) (S : World → Prop)
    (hB : treeB ops m t = true) (hK : ∀ c ρ ρ' ds w, K (.panic c) ρ ds w → K (.panic c) ρ' ds w) (hS : ∀ w w', S w → Ext w w' → S w') (hS0 : S w)
    (h : dTree n ops (ops.toList.drop m) S K t ρ ds w) : DRAW n id ops ρ ds w K := by
  simp only [treeB, Bool.and_eq_true] at hB
  obtain ⟨⟨⟨⟨hsel, hm⟩, hT⟩, hl⟩, hB⟩ := hB
  have hm' := Nat.le_of_ble_eq_true hm
  have hl' := Nat.eq_of_beq_eq_true hl
  refine ⟨fun a hr hd => ?_⟩
  have hdrew : Ext w { w with drawn := w.drawn + 1 } := ⟨Nat.le_refl _, fun _ _ _ => rfl, rfl, rfl⟩
  have inv0 : HeadInv .any ops m (Array.replicate ops.size false) :=
    ⟨by simp, fun j oj _ hl => (by rw [getD_replicate_false] at hl; cases hl), fun t _ ht => getD_in (by simpa using ht) (getD_replicate_false _ _)⟩
  have H := wpE_ext hdrew (dTree_sound (n := n) (K := K) hsel hT S hS t _ ρ ds w a hB inv0 h hr hd)
  have hdl : (ops.toList.drop m).length = ops.size - m := by simp
  have H2 := wpAny_of_E (g := ops.size - m) (fun listed a' w' hL => by
    have := wpAny_of_seq (md := .any) (Q' := QL n K) (ops.toList.drop m) m listed a' w' (fun j => by simp [List.getElem?_drop]) (by rw [hdl]; exact hL.1) hL.2
    rwa [hdl] at this) _ _ _ _ _ (hS _ _ hS0 hdrew) H
  rw [hl', show m + (ops.size - m) = ops.size by omega] at H2
  have hw := wp_region_any (id := id) follows_ok H2
  refine Code.wp_mono (fun e a' w' hq => ?_) hw
  cases e with
  | panic c =>
    obtain ⟨h1, ρ', h2⟩ := hq
    exact ⟨.base fun t => a'.tmps.getD t undef, ⟨h1, fun t => rfl⟩, hK _ _ _ _ _ h2⟩
  | _ => exact hq
theorem DRAW.t {n id : Nat} {ops : Array Oper} {ρ : Fr} {ds : List Deferred} {w : World} {K : Exit → Fr → List Deferred → World → Prop} (m : Nat) (t : Tr)
    (hB : treeB ops m t = true) (hK : ∀ c ρ ρ' ds w, K (.panic c) ρ ds w → K (.panic c) ρ' ds w)
    (h : dTree n ops (ops.toList.drop m) (Ext w) K t ρ ds w) : DRAW n id ops ρ ds w K :=
  DRAW.tr m t (Ext w) hB hK (fun _ _ h h' => h.trans' h') (Ext.refl w) h
theorem DRAW.tk {n id : Nat} {ops : Array Oper} {ρ : Fr} {ds : List Deferred} {w : World} {K : Exit → Fr → List Deferred → World → Prop} (m : Nat) (t : Tr) (bs : List Nat)
    (hB : treeB ops m t = true) (hK : ∀ c ρ ρ' ds w, K (.panic c) ρ ds w → K (.panic c) ρ' ds w)
    (h : dTree n ops (ops.toList.drop m) (Keep w bs) K t ρ ds w) : DRAW n id ops ρ ds w K :=
  DRAW.tr m t (Keep w bs) hB hK (Keep.ext w bs) (Keep.refl w bs) h

/-- The orders meet again: what is read later stands in a frame of one's own. -/
theorem DRAW.cut {X : Type} {n id : Nat} {ops : Array Oper} {ρ : Fr} {ds : List Deferred} {w : World} {K : Exit → Fr → List Deferred → World → Prop} (fr : X → List (Nat × Value)) (P : X → World → Prop)
    (h : DRAW n id ops ρ ds w (fun e ρ' ds' w' => e = .normal ∧ ds' = ds ∧ ∃ x, agree ρ' (fr x) ∧ P x w')) (k : ∀ x w', P x w' → ∀ j, K .normal (FR j (fr x)) ds w') : DRAW n id ops ρ ds w K := by
  obtain ⟨h⟩ := h
  refine ⟨fun a hr hd => Code.wp_mono (fun e a' w' hq => ?_) (h a hr hd)⟩
  obtain ⟨ρ', hr', he, hd', x, ha, hP⟩ := hq
  subst he
  refine ⟨FR ρ'.get (fr x), ⟨hr'.size, fun t => ?_⟩, ?_⟩
  · rw [hr'.get t]; exact FR_eq ha t
  · rw [hd']; exact k x w' hP _
end Go.E
end
/- The bytes of a program. -/
set_option linter.unusedVariables false
set_option linter.unusedSimpArgs false
namespace Go.E

theorem flatten_at {α : Type} : ∀ {L : List (List α)} {k : Nat} {x : List α}, L[k]? = some x → ∀ m, m < x.length → L.flatten[((L.take k).flatten.length) + m]? = x[m]?
  | [], k, x, h, _, _ => by simp at h
  | y :: L, 0, x, h, m, hm => by
    simp at h
    subst h
    simp only [List.take_zero, List.flatten_nil, List.length_nil, Nat.zero_add, List.flatten_cons]
    rw [List.getElem?_append_left hm]
  | y :: L, k + 1, x, h, m, hm => by
    have ih := flatten_at (L := L) (k := k) (x := x) (by simpa using h) m hm
    simp only [List.take_succ_cons, List.flatten_cons, List.length_append]
    rw [List.getElem?_append_right (by omega), show y.length + (L.take k).flatten.length + m - y.length = (L.take k).flatten.length + m by omega]
    exact ih
def encI (i : In) : List Nat := [i.op, i.a, i.b, i.c]
def encF (l : List In) : List Nat := l.length :: (l.map encI).flatten
def encP (g : Nat) (fs : List (List In)) : List Nat := fs.length :: g :: (fs.map encF).flatten
def posP (fs : List (List In)) (k : Nat) : Nat := 2 + (((fs.take k).map encF).flatten).length
theorem encI_flat (l : List In) : (l.map encI).flatten.length = 4 * l.length := by
  induction l with
  | nil => rfl
  | cons i l ih => simp only [List.map_cons, List.flatten_cons, List.length_append, List.length_cons, ih, encI]; simp; omega
theorem encF_len (l : List In) : (encF l).length = 1 + 4 * l.length := by unfold encF; rw [List.length_cons, encI_flat]; omega
theorem posP_zero (fs : List (List In)) : posP fs 0 = 2 := rfl
theorem posP_succ {fs : List (List In)} {k : Nat} {l : List In} (h : fs[k]? = some l) : posP fs (k + 1) = posP fs k + (1 + 4 * l.length) := by
  obtain ⟨hk, hl⟩ := List.getElem?_eq_some_iff.1 h
  unfold posP
  rw [List.take_succ_eq_append_getElem hk, hl]
  simp only [List.map_append, List.map_cons, List.map_nil, List.flatten_append, List.length_append, List.flatten_cons, List.flatten_nil, List.append_nil, encF_len]
  omega
theorem posP_end (g : Nat) (fs : List (List In)) : posP fs fs.length = (encP g fs).length := by
  unfold posP encP
  rw [List.take_length]
  simp; omega
theorem encP_at {g : Nat} {fs : List (List In)} {k : Nat} {l : List In} (h : fs[k]? = some l) {m : Nat} (hm : m < (encF l).length) : (encP g fs)[posP fs k + m]? = (encF l)[m]? := by
  have h' : (fs.map encF)[k]? = some (encF l) := by simp [h]
  have := flatten_at h' m hm
  unfold posP encP
  rw [show 2 + (((fs.take k).map encF).flatten).length + m = ((((fs.take k).map encF).flatten).length + m) + 2 by omega]
  simp only [List.getElem?_cons_succ]
  rw [← this, List.map_take]
theorem encP_len {g : Nat} {fs : List (List In)} {k : Nat} {l : List In} (h : fs[k]? = some l) : (encP g fs)[posP fs k]? = some l.length := by
  have := encP_at (g := g) h (m := 0) (by rw [encF_len]; omega)
  simpa [encF] using this
theorem encP_in {g : Nat} {fs : List (List In)} {k j : Nat} {l : List In} {i : In} (h : fs[k]? = some l) (hi : l[j]? = some i) {m : Nat} (hm : m < 4) : (encP g fs)[posP fs k + 1 + 4 * j + m]? = some ((encI i).getD m 0) := by
  have hj := (List.getElem?_eq_some_iff.1 hi).1
  have h1 := encP_at (g := g) h (m := 1 + (4 * j + m)) (by rw [encF_len]; omega)
  rw [show posP fs k + (1 + (4 * j + m)) = posP fs k + 1 + 4 * j + m by omega] at h1
  rw [h1]
  unfold encF
  rw [show 1 + (4 * j + m) = (4 * j + m) + 1 by omega, List.getElem?_cons_succ]
  have h2 : (l.map encI)[j]? = some (encI i) := by simp [hi]
  have h3 := flatten_at h2 m (by simpa [encI] using hm)
  have e : ((l.map encI).take j).flatten.length = 4 * j := by
    rw [← List.map_take, encI_flat, List.length_take]; omega
  rw [e] at h3
  rw [h3]
  simp [List.getD_eq_getElem?_getD, show m < (encI i).length by simpa [encI] using hm]
end Go.E
/- A script is read whole. -/
set_option linter.unusedVariables false
set_option linter.unusedSimpArgs false
set_option maxRecDepth 10000
noncomputable section
namespace Go.E
open Go Go.Proofs

/-- A part of one block has turned. -/
theorem Rn.stC {w0 w w' : World} {S0 S : Nat → Prop} {Ps : List Cmp} {b : Nat} {o o' : Obj} (h : Rn w0 S0 w S Ps) (i : Nat) (hi : Ps[i]? = some (cAt b o)) (c : Ch (fun y => y = b) w w') (hb' : At w' b o') :
    Rn w0 S0 w' S (Ps.set i (cAt b o')) := by
  obtain ⟨col, hs⟩ := h.sd
  have hb := hs i _ hi
  refine ⟨h.cc.sub c (by rintro y rfl; exact h.oo y hb.1.1), h.oo, fun y hy => Nat.lt_of_lt_of_le (h.bd y hy) c.size, col, fun j x hj => ?_⟩
  rcases set_get hj with ⟨rfl, rfl⟩ | ⟨hne, hj⟩
  · exact ⟨hb.1, hb'⟩
  · exact x.fm.ch (hs j x hj) c fun y hy hs' hh => hne (hs'.2.symm.trans (hh ▸ hb.1.2))
theorem Rn.blk {w0 w : World} {S0 S : Nat → Prop} {Ps : List Cmp} {b : Nat} {o : Obj} (h : Rn w0 S0 w S Ps) (i : Nat) (hi : Ps[i]? = some (cAt b o)) : At w b o := (h.get i hi).2
/-- The parts in another order, told by a row. -/
theorem Rn.perm {w0 w : World} {S0 S : Nat → Prop} {Ps Qs : List Cmp} (h : Rn w0 S0 w S Ps) (js : List Nat) (hl : Qs.length = js.length) (hn : (List.range js.length).all (fun i => js.idxOf (js.getD i 0) == i) = true)
    (hQ : ∀ i c, Qs[i]? = some c → Ps[js.getD i 0]? = some c) : Rn w0 S0 w S Qs := by
  refine h.pick (fun i => js.getD i 0) (fun j => js.idxOf j) hQ fun i hi => ?_
  have := List.all_eq_true.1 hn i (List.mem_range.2 (by omega))
  simpa using this
/-- Two parts become one. -/
theorem Side.merge {w : World} {S : Nat → Prop} {Ps : List Cmp} {ci cj : Cmp} (h : Side w S Ps) (i j : Nat) (hi : Ps[i]? = some ci) (hj : Ps[j]? = some cj) (hij : i ≠ j) (c d : Cmp)
    (H : ∀ A B : Nat → Prop, (∀ y, A y → B y → False) → ci.P w A → cj.P w B → c.P w (fun y => A y ∨ B y)) (D : d.P w (fun _ => False)) : Side w S ((Ps.set i c).set j d) := by
  obtain ⟨col, hs⟩ := h
  refine ⟨fun y => if col y = j then i else col y, fun k x hk => ?_⟩
  rcases set_get hk with ⟨rfl, rfl⟩ | ⟨hkj, hk⟩
  · exact x.fm.mono D fun y _ hh => hh.elim
  · rcases set_get hk with ⟨rfl, rfl⟩ | ⟨hki, hk⟩
    · refine x.fm.mono (H _ _ (fun y h1 h2 => hij (h1.2.symm.trans h2.2)) (hs k _ hi) (hs j _ hj)) fun y _ hh => ?_
      rcases hh with hh | hh
      · exact ⟨hh.1, by show (if col y = j then k else col y) = k; rw [if_neg (by rw [hh.2]; exact hij), hh.2]⟩
      · exact ⟨hh.1, if_pos hh.2⟩
    · refine x.fm.mono (hs k x hk) fun y _ hh => ⟨hh.1, ?_⟩
      show (if col y = j then i else col y) = k
      rw [if_neg (by rw [hh.2]; exact hkj), hh.2]
theorem Rn.merge {w0 w : World} {S0 S : Nat → Prop} {Ps : List Cmp} {ci cj : Cmp} (h : Rn w0 S0 w S Ps) (i j : Nat) (hi : Ps[i]? = some ci) (hj : Ps[j]? = some cj) (hij : i ≠ j) (c d : Cmp)
    (H : ∀ A B : Nat → Prop, (∀ y, A y → B y → False) → ci.P w A → cj.P w B → c.P w (fun y => A y ∨ B y)) (D : d.P w (fun _ => False)) : Rn w0 S0 w S ((Ps.set i c).set j d) := ⟨h.cc, h.oo, h.bd, h.sd.merge i j hi hj hij c d H D⟩
/-- Slices of instructions. -/
def SbAt (w : World) (S : Nat → Prop) (ls : List FL) (fs : List (List In)) : Prop := ls.length = fs.length ∧ ∀ (i : Nat) (x : FL) (l : List In), ls[i]? = some x → fs[i]? = some l → MSl w S 33 4 x.a x.c (l.map inC)
theorem SbAt.fm {ls : List FL} {fs : List (List In)} : Fm (fun w S => SbAt w S ls fs) := by
  rintro w w' S S' ⟨h1, h5⟩ hf
  exact ⟨h1, fun i x l hx hl => MSl.fm w w' S S' (h5 i x l hx hl) hf⟩
def cSb (ls : List FL) (fs : List (List In)) : Cmp := ⟨fun w S => SbAt w S ls fs, SbAt.fm⟩
def fnV (ls : List FL) (fs : List (List In)) : List Value := List.zipWith (fun x l => Value.slice x.a l.length x.c) ls fs
theorem fnV_app {ls : List FL} {fs : List (List In)} (h : ls.length = fs.length) (x : FL) (l : List In) : fnV (ls ++ [x]) (fs ++ [l]) = fnV ls fs ++ [.slice x.a l.length x.c] := by
  unfold fnV
  rw [List.zipWith_append h]; rfl
theorem fnV_len {ls : List FL} {fs : List (List In)} (h : ls.length = fs.length) : (fnV ls fs).length = fs.length := by simp [fnV, h]
theorem SbAt.app {w : World} {A B : Nat → Prop} {ls : List FL} {fs : List (List In)} {x : FL} {l : List In} (h : SbAt w A ls fs) (hx : MSl w B 33 4 x.a x.c (l.map inC)) : SbAt w (fun y => A y ∨ B y) (ls ++ [x]) (fs ++ [l]) := by
  obtain ⟨h1, h2⟩ := h
  refine ⟨by simp [h1], fun i y k hy hk => ?_⟩
  by_cases hi : i < ls.length
  · rw [List.getElem?_append_left hi] at hy
    rw [List.getElem?_append_left (by omega)] at hk
    exact MSl.fm.mono (h2 i y k hy hk) fun y _ hh => .inl hh
  · have hil := (List.getElem?_eq_some_iff.1 hy).1
    simp at hil
    have : i = ls.length := by omega
    subst this
    rw [List.getElem?_append_right (Nat.le_refl _), Nat.sub_self] at hy
    rw [h1, List.getElem?_append_right (Nat.le_refl _), Nat.sub_self] at hk
    cases hy; cases hk
    exact MSl.fm.mono hx fun y _ hh => .inr hh
theorem FnAt.of {w : World} {A B : Nat → Prop} {ls : List FL} {fs : List (List In)} {a : Option Addr} {c : Nat} (h : SbAt w A ls fs) (hv : VS w B 34 a c (fnV ls fs)) : FnAt w (fun y => A y ∨ B y) a c fs := by
  refine ⟨ls, h.1, ⟨fnV ls fs, fnV_len h.1, VS.fm.mono hv fun y _ hh => .inr hh, fun i x l hx hl => ?_⟩, fun i x l hx hl => MSl.fm.mono (h.2 i x l hx hl) fun y _ hh => .inl hh⟩
  simp [fnV, List.getElem?_zipWith, hx, hl]
/-- A program that may be. -/
def okI (g n s : Nat) (i : In) : Prop := i.op < 18 ∧ fitZ g n s (ptZ i.op 0) i.a = true ∧ fitZ g n s (ptZ i.op 1) i.b = true ∧ fitZ g n s (ptZ i.op 2) i.c = true
def okP (g : Nat) (fs : List (List In)) : Prop := g ≤ 32 ∧ 1 ≤ fs.length ∧ fs.length ≤ 16 ∧ ∀ l ∈ fs, 1 ≤ l.length ∧ l.length ≤ 64 ∧ ∀ i ∈ l, okI g fs.length l.length i
theorem fitZ_bd {g n s : Nat} {p : Nat} {v : Nat} (hg : g ≤ 32) (hn : n ≤ 16) (hs : s ≤ 64) (h : fitZ g n s p v = true) : v < 256 := by
  unfold fitZ at h
  have h2 := of_decide_eq_true h
  rcases p with _ | _ | _ | _ | _ | _ | _ | p <;> simp [mostZ] at h2 <;> omega
theorem okP_len {g : Nat} {fs : List (List In)} (h : okP g fs) : (encP g fs).length ≤ 4114 := by
  rw [← posP_end]
  have key : ∀ k, k ≤ fs.length → posP fs k ≤ 2 + k * 257 := by
    intro k
    induction k with
    | zero => intro _; simp [posP_zero]
    | succ k ih =>
      intro hk
      have hl : fs[k]? = some fs[k] := List.getElem?_eq_getElem (by omega)
      rw [posP_succ hl]
      have := ih (by omega)
      have := (h.2.2.2 fs[k] (List.getElem_mem _)).2.1
      omega
  have h1 := key fs.length (Nat.le_refl _)
  have h2 := h.2.2.1
  omega

theorem dec1_ok {b2 b3 b4 : Nat} (w : World) : CallsD PP 133 #[pt b2, pt b3, pt b4] .returning w (fun e u' w' => u' = .returning ∧ (e = .returned (.tuple #[]) ∧ Ext w w')) := by
  refine rec_den (args := [pt b2, pt b3, pt b4]) (fn := Tryz.f133) Tryz.func133 rfl (by simp) rfl rfl rfl rfl (fun R hR => ?_)
  refine RUN.assertNil (z := [i64 0]) rfl rfl rfl rfl ?_
  refine RUN.alloc rfl rfl (fun b1 w1 n1 => ?_)
  refine RUN.sta (vs := [i64 0]) n1.here rfl (by simp) (by simp [Value.oneCell']) (fun w2 u2 => ?_)
  exact hR _ _ ⟨rfl, n1.ext.trans u2.ch (fun y hy hb => by have := n1.blk; omega)⟩
theorem dec1_bad {b2 b3 b4 : Nat} {w : World} {at_ : Int} {cs : List Value} (h2 : At w b2 (B cs 30)) (hc : cs.length = 2) (h3 : At w b3 (B [i64 0] 3)) (h4 : At w b4 (B [i64 0] 3)) (d23 : b2 ≠ b3) (d24 : b2 ≠ b4) (d34 : b3 ≠ b4) :
    CallsD PP 133 #[pt b2, pt b3, pt b4] (.panicking [badV at_]) w (fun e u' w' => u' = .panicking [{ v := .iface 222 (.agg #[i64 at_]), recovered := true }] ∧ (e = .returned (.tuple #[]) ∧ At w' b2 (B [i64 0, nils] 30) ∧ At w' b3 (B [i64 6] 3) ∧ At w' b4 (B [i64 at_] 3) ∧ Ch (fun y => y = b2 ∨ y = b3 ∨ y = b4) w w')) := by
  refine rec_den (args := [pt b2, pt b3, pt b4]) (fn := Tryz.f133) Tryz.func133 rfl (by simp) rfl rfl rfl rfl (fun R hR => ?_)
  refine RUN.assertOk rfl rfl ?_
  refine RUN.alloc rfl rfl (fun b1 w1 n1 => ?_)
  refine RUN.sta (vs := [i64 at_]) n1.here rfl (by simp) (by simp [Value.oneCell']) (fun w2 u2 => ?_)
  have hb1 := n1.blk
  have x2 : Ext w w2 := n1.ext.trans u2.ch (fun y hy hb => by omega)
  have e2 : b2 ≠ b1 := n1.ne h2
  have e3 : b3 ≠ b1 := n1.ne h3
  have e4 : b4 ≠ b1 := n1.ne h4
  refine DRAW.k 5 [(0, .q), (1, .q), (2, .q), (3, .s), (4, .s)] [b1] (by kernel_rfl) (fun _ _ _ _ _ h => h) ?_
  refine RUNQ.kld u2.here (by simp) rfl (rfl) ?_
  intro w3 x3 _
  refine RUN.sta (vs := [i64 0, nils]) (x3.at (x2.at h2)) rfl (by simp; omega) (by simp [Value.oneCell']) (fun w4 u4 => ?_)
  have c4 : Ch (fun y => y = b2 ∨ y = b3 ∨ y = b4) w w4 := .upd (.toS (x2.trans' x3)) u4 (.inl (.inl rfl))
  refine ⟨Keep.ch (Keep.ext _ _ _ _ (Keep.refl _ _) x3) u4.ch (fun y hy _ => by simp at hy; subst hy; exact Ne.symm e2), ?_⟩
  intro w5 x5 _
  refine RUN.sti (x5.at (u4.at (x3.at (x2.at h3)) (Ne.symm d23))) rfl (by simp) (fun w6 u6 => ?_)
  refine ⟨Keep.ch (Keep.ext _ _ _ _ (Keep.ch (Keep.ext _ _ _ _ (Keep.refl _ _) x3) u4.ch (fun y hy _ => by simp at hy; subst hy; exact Ne.symm e2)) x5) u6.ch (fun y hy _ => by simp at hy; subst hy; exact Ne.symm e3), ?_⟩
  intro w7 x7
  refine RUN.sti (x7.at (u6.at (x5.at (u4.at (x3.at (x2.at h4)) (Ne.symm d24))) (Ne.symm d34))) rfl (by simp) (fun w8 u8 => ?_)
  refine hR _ _ ⟨rfl, ?_, u8.at (x7.at u6.here) d34, u8.here, .upd (.ext (.upd (.ext c4 x5) u6 (.inl (.inr (.inl rfl)))) x7) u8 (.inl (.inr (.inr rfl)))⟩
  have h := u8.at (x7.at (u6.at (x5.at u4.here) d23)) d24
  have e : setAt cs 0 [i64 0, nils] = [i64 0, nils] := by
    rcases cs with _ | ⟨p, _ | ⟨q, _ | ⟨r, cs⟩⟩⟩ <;> first | (simp at hc; done) | rfl
  rw [e] at h
  exact h
end Go.E
end
