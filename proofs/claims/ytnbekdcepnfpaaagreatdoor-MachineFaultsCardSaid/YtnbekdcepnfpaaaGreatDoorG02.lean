/- Facts on worlds, and how each sealed operation is met. -/
import Derived.WalkKit
import Derived.Test.YtnbekdcepnfpaaaGreatDoorG01
set_option linter.unusedVariables false
set_option linter.unusedSimpArgs false
set_option maxRecDepth 10000
noncomputable section
namespace Go.E
open Go

/-! ### Worlds -/
def At (w : World) (b : Nat) (o : Obj) : Prop := w.heap[b]? = some o
/-- A row of cells. -/
def B (cs : List Value) (T : TypeId) : Obj := .cells cs.toArray T (0, 0)

/-- What was there has changed in S alone; there may be new blocks. -/
structure Ch (S : Nat → Prop) (w w' : World) : Prop where
  size : w.heap.size ≤ w'.heap.size
  old : ∀ b, b < w.heap.size → ¬ S b → w'.heap[b]? = w.heap[b]?
  os : w'.os = w.os
  output : w'.output = w.output
abbrev Ext (w w' : World) : Prop := Ch (fun _ => False) w w'

theorem At.lt {w : World} {b : Nat} {o : Obj} (h : At w b o) : b < w.heap.size := by
  rcases Nat.lt_or_ge b w.heap.size with h' | h'
  · exact h'
  · unfold At at h; rw [Array.getElem?_eq_none h'] at h; cases h
theorem At.inj {w : World} {b : Nat} {o o' : Obj} (h : At w b o) (h' : At w b o') : o = o' := Option.some.inj (h.symm.trans h')
theorem Ch.refl (S : Nat → Prop) (w : World) : Ch S w w := ⟨Nat.le_refl _, fun _ _ _ => rfl, rfl, rfl⟩
theorem Ext.refl (w : World) : Ext w w := Ch.refl _ w
theorem Ch.trans {S T : Nat → Prop} {a b c : World} (h : Ch S a b) (k : Ch T b c) (hT : ∀ x, x < a.heap.size → T x → S x) : Ch S a c :=
  ⟨Nat.le_trans h.size k.size, fun x hx hs => (k.old x (Nat.lt_of_lt_of_le hx h.size) (fun ht => hs (hT x hx ht))).trans (h.old x hx hs), k.os.trans h.os, k.output.trans h.output⟩
theorem Ch.trans' {S : Nat → Prop} {a b c : World} (h : Ch S a b) (k : Ch S b c) : Ch S a c := h.trans k fun _ _ h => h
theorem Ch.ext {S : Nat → Prop} {a b c : World} (h : Ch S a b) (k : Ext b c) : Ch S a c := h.trans k fun _ _ h => h.elim
theorem Ch.mono {S T : Nat → Prop} {a b : World} (h : Ch S a b) (hST : ∀ x, x < a.heap.size → S x → T x) : Ch T a b :=
  ⟨h.size, fun x hx ht => h.old x hx (fun hs => ht (hST x hx hs)), h.os, h.output⟩
theorem Ext.ch {S : Nat → Prop} {a b : World} (h : Ext a b) : Ch S a b := h.mono fun _ _ h => h.elim
theorem Ch.at {S : Nat → Prop} {w w' : World} {b : Nat} {o : Obj} (h : Ch S w w') (hb : At w b o) (hs : ¬ S b) : At w' b o :=
  (h.old b hb.lt hs).trans hb
theorem Ext.at {w w' : World} {b : Nat} {o : Obj} (h : Ext w w') (hb : At w b o) : At w' b o := Ch.at h hb id

/-- A block has been written, and nothing else. -/
structure Upd (w w' : World) (b : Nat) (o : Obj) : Prop where
  here : At w' b o
  size : w'.heap.size = w.heap.size
  other : ∀ b', b' ≠ b → w'.heap[b']? = w.heap[b']?
  os : w'.os = w.os
  output : w'.output = w.output
theorem Upd.ch {w w' : World} {b : Nat} {o : Obj} (h : Upd w w' b o) : Ch (· = b) w w' :=
  ⟨Nat.le_of_eq h.size.symm, fun x _ hx => h.other x hx, h.os, h.output⟩
theorem Upd.at {w w' : World} {b b' : Nat} {o o' : Obj} (h : Upd w w' b o) (hb : At w b' o') (hne : b' ≠ b) : At w' b' o' := (h.other b' hne).trans hb
/-- A block has been made, and nothing else. -/
structure New (w w' : World) (b : Nat) (o : Obj) : Prop where
  blk : b = w.heap.size
  here : At w' b o
  size : w'.heap.size = w.heap.size + 1
  old : ∀ b', b' < w.heap.size → w'.heap[b']? = w.heap[b']?
  os : w'.os = w.os
  output : w'.output = w.output
theorem New.ext {w w' : World} {b : Nat} {o : Obj} (h : New w w' b o) : Ext w w' :=
  ⟨by rw [h.size]; omega, fun x hx _ => h.old x hx, h.os, h.output⟩
theorem New.at {w w' : World} {b b' : Nat} {o o' : Obj} (h : New w w' b o) (hb : At w b' o') : At w' b' o' := (h.old b' hb.lt).trans hb
theorem New.ne {w w' : World} {b b' : Nat} {o o' : Obj} (h : New w w' b o) (hb : At w b' o') : b' ≠ b := by have := hb.lt; have := h.blk; omega

/-! ### Cells -/
theorem cell_of {w : World} {b o : Nat} {cs : List Value} {T : TypeId} (h : At w b (B cs T)) : w.cell? ⟨b, o, none⟩ = cs[o]? := by
  unfold At at h
  simp [World.cell?, h, B]
theorem frozen_of {w : World} {b o : Nat} {cs : List Value} {T : TypeId} (h : At w b (B cs T)) : w.frozen? ⟨b, o, none⟩ = false := by
  unfold At at h
  simp [World.frozen?, h, B]
theorem setCell_upd {w : World} {b o : Nat} {cs : List Value} {T : TypeId} (h : At w b (B cs T)) (v : Value) : Upd w (w.setCell ⟨b, o, none⟩ v) b (B (cs.set o v) T) := by
  refine ⟨?_, by simp, fun b' hb' => ?_, rfl, rfl⟩
  · unfold At at h ⊢
    simp [World.setCell, Array.getElem?_modify, h, B]
  · simp only [World.setCell, Array.getElem?_modify]
    rw [if_neg (fun e => hb' e.symm)]
theorem alloc_new {w : World} (o : Obj) : New w (w.alloc o) w.heap.size o :=
  ⟨rfl, by unfold At World.alloc; simp, by simp, fun b' hb' => by simp only [World.alloc, Array.getElem?_push]; rw [if_neg (by omega)], rfl, rfl⟩

def scal (t : Nat) : Bool := inTau t && !(tau t).agg && (match (tau t).k with | .other => false | _ => true)
theorem scal_ok {t : Nat} (h : scal t = true) : inTau t = true ∧ (tau t).agg = false ∧ (tau t).k ≠ .other := by
  simp only [scal, Bool.and_eq_true, Bool.not_eq_true'] at h
  refine ⟨h.1.1, h.1.2, fun hk => ?_⟩
  rw [hk] at h; simp at h
theorem size_ok {t : Nat} (h : inTau t = true) (ho : (tau t).k ≠ .other) (w : World) : (sizeOf t).run PP w = .ok (tau t).size w := by
  obtain ⟨i, d, hi, hs, _⟩ := info_of h ho
  rw [run_sizeOf hi, hs]

theorem load_run {t b o : Nat} {cs : List Value} {T : TypeId} {v : Value} {w : World} (ht : scal t = true) (hb : At w b (B cs T)) (hv : cs[o]? = some v) :
    (Instr.loadAt t (.pointer (some ⟨b, o, none⟩))).run PP w = .ok v w := by
  obtain ⟨h1, h2, h3⟩ := scal_ok ht
  unfold Instr.loadAt
  simp only [Sem.run_bind, Instr.sureAddr, Sem.run_pure, Result.andThen_ok, loadVar, notAgg_run h1 h2 h3]
  simp only [Bool.false_eq_true, if_false, run_load, cell_of hb, hv]
theorem loadCells_go {w : World} {b : Nat} {cs : List Value} {T : TypeId} (hb : At w b (B cs T)) (o : Nat) : ∀ (n i : Nat) (acc : Array Value), o + i + n ≤ cs.length →
    (loadCellsFrom ⟨b, o, none⟩ i n acc).run PP w = .ok (acc ++ ((cs.drop (o + i)).take n).toArray) w
  | 0, i, acc, _ => by simp [loadCellsFrom]
  | n + 1, i, acc, h => by
    have hlt : o + i < cs.length := by omega
    have hc : w.cell? (Addr.add ⟨b, o, none⟩ i) = some cs[o + i] := by
      have : Addr.add ⟨b, o, none⟩ i = ⟨b, o + i, none⟩ := by
        simp only [Addr.add]; split
        · rename_i h; subst h; rfl
        · rfl
      rw [this, cell_of hb]; simp [hlt]
    simp only [loadCellsFrom, Sem.run_bind, run_load, hc, Result.andThen_ok]
    rw [loadCells_go hb o n (i + 1) _ (by omega)]
    congr 1
    apply Array.ext'
    simp only [Array.toList_append, Array.toList_push, List.append_assoc]
    congr 1
    rw [List.drop_eq_getElem_cons hlt, List.take_succ_cons]
    simp [Nat.add_assoc]
theorem loadA_run {t b o : Nat} {cs vs : List Value} {T : TypeId} {w : World} (h1 : inTau t = true) (h2 : (tau t).agg = true) (hb : At w b (B cs T)) (ho : o + (tau t).size ≤ cs.length) (hv : (cs.drop o).take (tau t).size = vs) :
    (Instr.loadAt t (.pointer (some ⟨b, o, none⟩))).run PP w = .ok (.agg vs.toArray) w := by
  have h3 : (tau t).k ≠ .other := by intro h; simp [TE.agg, h] at h2
  unfold Instr.loadAt
  simp only [Sem.run_bind, Instr.sureAddr, Sem.run_pure, Result.andThen_ok, loadVar, isAgg_run h1 h2, if_true, size_ok h1 h3, loadCells]
  rw [loadCells_go hb o _ 0 _ (by simpa using ho)]
  simp only [Result.andThen_ok, Nat.add_zero, hv]
  simp

theorem storeCells_go {b : Nat} {T : TypeId} (o : Nat) : ∀ (vs : List Value) (i : Nat) (cs : List Value) (w : World), At w b (B cs T) → (∀ v ∈ vs, v.oneCell' = true) → o + i + vs.length ≤ cs.length →
    ∃ w', (storeCells ⟨b, o, none⟩ vs i).run PP w = .ok () w' ∧ Upd w w' b (B (setAt cs (o + i) vs) T)
  | [], i, cs, w, hb, _, _ => by
    refine ⟨w, by simp [storeCells], ?_, rfl, fun _ _ => rfl, rfl, rfl⟩
    have : setAt cs (o + i) [] = cs := by
      apply List.ext_getElem?; intro j
      rcases Nat.le_or_ge (o + i) cs.length with h | h
      · rw [setAt_eq _ _ _ _ (by simpa using h)]; rw [if_neg (by simp)]
      · have : ∀ (cs : List Value) n, setAt cs n [] = cs := by
          intro cs; induction cs with
          | nil => intro n; rfl
          | cons a l ih => intro n; cases n <;> simp [setAt, ih]
        rw [this]
    rw [this]; exact hb
  | v :: vs, i, cs, w, hb, h1, h2 => by
    have h2' : o + i + (vs.length + 1) ≤ cs.length := h2
    have ha : Addr.add ⟨b, o, none⟩ i = ⟨b, o + i, none⟩ := by
      simp only [Addr.add]; split
      · rename_i h; subst h; rfl
      · rfl
    have hlt : o + i < cs.length := by omega
    have hc : w.cell? ⟨b, o + i, none⟩ = some cs[o + i] := by rw [cell_of hb]; simp [hlt]
    have hu := setCell_upd (o := o + i) hb v
    obtain ⟨w', hr, hu'⟩ := storeCells_go o vs (i + 1) (cs.set (o + i) v) (w.setCell ⟨b, o + i, none⟩ v) hu.here (fun x hx => h1 x (by simp [hx])) (by simp; omega)
    refine ⟨w', ?_, ?_, hu'.size.trans hu.size, fun b' hb' => (hu'.other b' hb').trans (hu.other b' hb'), hu'.os.trans hu.os, hu'.output.trans hu.output⟩
    · simp only [storeCells, Sem.run_bind, ha]
      rw [run_store PP w _ v _ (h1 v (by simp)), hc]
      simp only [frozen_of hb, Bool.false_eq_true, if_false, Result.andThen_ok]
      exact hr
    · have e : setAt (cs.set (o + i) v) (o + (i + 1)) vs = setAt cs (o + i) (v :: vs) := by
        apply List.ext_getElem?; intro j
        rw [setAt_eq _ _ _ _ (by simp; omega), setAt_eq _ _ _ _ (by simpa using h2)]
        simp only [List.length_cons]
        by_cases hj : o + (i + 1) ≤ j ∧ j < o + (i + 1) + vs.length
        · rw [if_pos hj, if_pos (by omega)]
          obtain ⟨m, hm⟩ : ∃ m, j - (o + i) = m + 1 := ⟨j - (o + i) - 1, by omega⟩
          rw [hm, List.getElem?_cons_succ]; congr 1; omega
        · rw [if_neg hj]
          by_cases hji : j = o + i
          · subst hji; rw [if_pos (by omega)]; simp [hlt]
          · rw [if_neg (by omega), List.getElem?_set_ne (fun e => hji e.symm)]
      rw [← e]; exact hu'.here
theorem setAt_one (cs : List Value) (o : Nat) (v : Value) : setAt cs o [v] = cs.set o v := by
  have h0 : ∀ (cs : List Value), setAt cs 0 [] = cs := by intro cs; cases cs <;> rfl
  induction cs generalizing o with
  | nil => rfl
  | cons a l ih => cases o with
    | zero => simp [setAt, h0]
    | succ o => simp [setAt, ih]

theorem storeA_run {t b o : Nat} {cs : List Value} {T : TypeId} {v : Value} {w : World} (h1 : inTau t = true) (h3 : (tau t).k ≠ .other) (hb : At w b (B cs T)) (hs : (cellsOf v).length = (tau t).size)
    (ho : o + (tau t).size ≤ cs.length) (hv : ∀ x ∈ cellsOf v, x.oneCell' = true) :
    ∃ w', (Instr.storeAt t (.pointer (some ⟨b, o, none⟩)) v).run PP w = .ok () w' ∧ Upd w w' b (B (setAt cs o (cellsOf v)) T) := by
  have hsz : v.cells.size = (tau t).size := by rw [← hs, cellsOf_eq]; simp
  obtain ⟨w', hr, hu⟩ := storeCells_go o (cellsOf v) 0 cs w hb hv (by omega)
  refine ⟨w', ?_, by simpa using hu⟩
  unfold Instr.storeAt
  simp only [Sem.run_bind, Instr.sureAddr, Sem.run_pure, Result.andThen_ok, storeVar, size_ok h1 h3]
  rw [if_neg (by rw [hsz]; simp), ← cellsOf_eq]
  simpa using hr

/-! ### How the sealed operations are met -/
section
variable {ty : TypeId} {w : World} {K : Value → World → Prop} {X : List PanicEntry → World → Prop}

theorem RUN.ld {t : TypeId} {x : Operand} {b o : Nat} {cs : List Value} {T : TypeId} {v : Value} (hb : At w b (B cs T)) (ht : scal t = true) (hv : cs[o]? = some v) (k : K v w) :
    RUN (.load t x) ty [.pointer (some ⟨b, o, none⟩)] w K X := .ok v w (load_run ht hb hv) k
/-- An integer comes out as a letter. -/
theorem RUN.ldi {t : TypeId} {x : Operand} {b o : Nat} {cs : List Value} {T : TypeId} {kd : IntKind} {n : Int} (hb : At w b (B cs T)) (ht : scal t = true) (hv : cs[o]? = some (.int kd n)) (k : ∀ y, y = n → K (.int kd y) w) :
    RUN (.load t x) ty [.pointer (some ⟨b, o, none⟩)] w K X := .ok _ w (load_run ht hb hv) (k n rfl)
theorem RUN.lda {t : TypeId} {x : Operand} {b o : Nat} {cs vs : List Value} {T : TypeId} (hb : At w b (B cs T)) (h1 : (inTau t && (tau t).agg) = true) (ho : o + (tau t).size ≤ cs.length) (hv : (cs.drop o).take (tau t).size = vs) (k : K (.agg vs.toArray) w) :
    RUN (.load t x) ty [.pointer (some ⟨b, o, none⟩)] w K X := by
  simp only [Bool.and_eq_true] at h1
  exact .ok _ w (loadA_run h1.1 h1.2 hb ho hv) k
theorem RUN.st {t : TypeId} {x y : Operand} {b o : Nat} {cs : List Value} {T : TypeId} {v : Value} (hb : At w b (B cs T)) (ht : (scal t && Nat.beq (tau t).size 1) = true) (ho : o < cs.length) (hv : v.oneCell' = true)
    (k : ∀ w', Upd w w' b (B (cs.set o v) T) → K undef w') : RUN (.store t x y) ty [.pointer (some ⟨b, o, none⟩), v] w K X := by
  simp only [Bool.and_eq_true] at ht
  obtain ⟨h1, h2, h3⟩ := scal_ok ht.1
  have hs := Nat.eq_of_beq_eq_true ht.2
  have hc : cellsOf v = [v] := by cases v <;> simp_all [cellsOf, Value.oneCell']
  obtain ⟨w', hr, hu⟩ := storeA_run (o := o) (v := v) h1 h3 hb (by rw [hc, hs]; rfl) (by omega) (by rw [hc]; simpa using hv)
  rw [hc, setAt_one] at hu
  refine .ok undef w' ?_ (k w' hu)
  show ((do Instr.storeAt t _ v; pure undef) : Sem Value).run PP w = _
  rw [uu_run, hr]; rfl
theorem RUN.sti {t : TypeId} {x y : Operand} {b o : Nat} {cs : List Value} {T : TypeId} {kd : IntKind} {n : Int} (hb : At w b (B cs T)) (ht : (scal t && Nat.beq (tau t).size 1) = true) (ho : o < cs.length)
    (k : ∀ w', Upd w w' b (B (cs.set o (.int kd n)) T) → K undef w') : RUN (.store t x y) ty [.pointer (some ⟨b, o, none⟩), .int kd n] w K X := RUN.st hb ht ho rfl k
theorem RUN.stb {t : TypeId} {x y : Operand} {b o : Nat} {cs : List Value} {T : TypeId} {v : Bool} (hb : At w b (B cs T)) (ht : (scal t && Nat.beq (tau t).size 1) = true) (ho : o < cs.length)
    (k : ∀ w', Upd w w' b (B (cs.set o (.bool v)) T) → K undef w') : RUN (.store t x y) ty [.pointer (some ⟨b, o, none⟩), .bool v] w K X := RUN.st hb ht ho rfl k
theorem RUN.stp {t : TypeId} {x y : Operand} {b o : Nat} {cs : List Value} {T : TypeId} {v : Option Addr} (hb : At w b (B cs T)) (ht : (scal t && Nat.beq (tau t).size 1) = true) (ho : o < cs.length)
    (k : ∀ w', Upd w w' b (B (cs.set o (.pointer v)) T) → K undef w') : RUN (.store t x y) ty [.pointer (some ⟨b, o, none⟩), .pointer v] w K X := RUN.st hb ht ho rfl k
theorem RUN.stl {t : TypeId} {x y : Operand} {b o : Nat} {cs : List Value} {T : TypeId} {v : Option Addr} {n c : Nat} (hb : At w b (B cs T)) (ht : (scal t && Nat.beq (tau t).size 1) = true) (ho : o < cs.length)
    (k : ∀ w', Upd w w' b (B (cs.set o (.slice v n c)) T) → K undef w') : RUN (.store t x y) ty [.pointer (some ⟨b, o, none⟩), .slice v n c] w K X := RUN.st hb ht ho rfl k
theorem RUN.sta {t : TypeId} {x y : Operand} {b o : Nat} {cs vs : List Value} {T : TypeId} (hb : At w b (B cs T)) (ht : (inTau t && (tau t).agg && Nat.beq vs.length (tau t).size) = true) (ho : o + vs.length ≤ cs.length) (hv : ∀ v ∈ vs, v.oneCell' = true)
    (k : ∀ w', Upd w w' b (B (setAt cs o vs) T) → K undef w') : RUN (.store t x y) ty [.pointer (some ⟨b, o, none⟩), .agg vs.toArray] w K X := by
  simp only [Bool.and_eq_true] at ht
  have h3 : (tau t).k ≠ .other := by intro h; simp [TE.agg, h] at ht
  have hs := Nat.eq_of_beq_eq_true ht.2
  obtain ⟨w', hr, hu⟩ := storeA_run (o := o) (v := .agg vs.toArray) ht.1.1 h3 hb hs (by omega) hv
  refine .ok undef w' ?_ (k w' hu)
  show ((do Instr.storeAt t _ (.agg vs.toArray); pure undef) : Sem Value).run PP w = _
  rw [uu_run, hr]; rfl

theorem newRow_run (e : TypeId) (cs : Array Value) (w : World) : (newRow e cs).run PP w = .ok ⟨w.heap.size, 0, none⟩ (w.alloc (.cells cs e)) := by
  simp [newRow]
def known (t : Nat) : Bool := inTau t && (match (tau t).k with | .other => false | _ => true)
theorem known_ok {t : Nat} (h : known t = true) : inTau t = true ∧ (tau t).k ≠ .other := by
  simp only [known, Bool.and_eq_true] at h
  refine ⟨h.1, fun hk => ?_⟩
  rw [hk] at h; simp at h
theorem RUN.alloc {t : TypeId} {z : List Value} (ht : known t = true) (hz : (tau t).zero = some z) (k : ∀ b w', New w w' b (B z t) → K (.pointer (some ⟨b, 0, none⟩)) w') : RUN (.alloc t) ty [] w K X := by
  obtain ⟨h1, h2⟩ := known_ok ht
  obtain ⟨v, hv, hc⟩ := zero_run h1 h2 hz w
  refine .ok _ (w.alloc (B z t)) ?_ (k _ _ (alloc_new _))
  show (Instr.alloc t true (.tuple #[])).run PP w = _
  unfold Instr.alloc
  simp only [Sem.run_bind, hv, Result.andThen_ok, newVar, newRow_run, Sem.run_pure]
  have : v.cells = z.toArray := by rw [← hc]
  rw [this]; rfl
/-- A variable whose zero is given by hand. -/
theorem RUN.allocZ {t : TypeId} {z : List Value} {v : Value} (hi : (PP.info? t).bind (·.zero) = some v) (hc : v.cells.toList = z) (k : ∀ b w', New w w' b (B z t) → K (.pointer (some ⟨b, 0, none⟩)) w') : RUN (.alloc t) ty [] w K X := by
  have hv : (zeroValue t).run PP w = .ok v w := by
    unfold zeroValue
    cases hx : PP.info? t with
    | none => rw [hx] at hi; cases hi
    | some i =>
      rw [hx] at hi
      simp only [Option.bind_some] at hi
      simp only [Sem.run_bind, typeInfo, run_program, Result.andThen_ok, hx, Sem.run_pure, hi]
  refine .ok _ (w.alloc (B z t)) ?_ (k _ _ (alloc_new _))
  show (Instr.alloc t true (.tuple #[])).run PP w = _
  unfold Instr.alloc
  simp only [Sem.run_bind, hv, Result.andThen_ok, newVar, newRow_run, Sem.run_pure]
  have : v.cells = z.toArray := by rw [← hc]
  rw [this]; rfl
theorem RUN.box {t : TypeId} {x : Operand} {v : Value} (k : ∀ b w', New w w' b (B (cellsOf v) t) → K (.pointer (some ⟨b, 0, none⟩)) w') : RUN (.box t x) ty [v] w K X := by
  refine .ok _ (w.alloc (B (cellsOf v) t)) ?_ (k _ _ (alloc_new _))
  show (Instr.box t v).run PP w = _
  unfold Instr.box
  simp only [Sem.run_bind, newVar, newRow_run, Result.andThen_ok, Sem.run_pure]
  rw [cellsOf_eq]; rfl
theorem RUN.makeMap {t : TypeId} (k : ∀ b w', New w w' b (.map #[] 0) → K (.map (some b)) w') : RUN (.makeMap t none) ty [] w K X := by
  refine .ok _ (w.alloc (.map #[] 0)) ?_ (k _ _ (alloc_new _))
  show (Instr.makeMap t none).run PP w = _
  unfold Instr.makeMap
  simp

/-- The zeros of so many elements. -/
def zerosOf (z : List Value) : Nat → List Value
  | 0 => []
  | n + 1 => z ++ zerosOf z n
theorem zerosOf_length (z : List Value) (n : Nat) : (zerosOf z n).length = n * z.length := by
  induction n with
  | zero => simp [zerosOf]
  | succ n ih => simp [zerosOf, ih, Nat.succ_mul, Nat.add_comm]
theorem zerosOf_get (z : List Value) : ∀ (n i : Nat), i < n * z.length → (zerosOf z n)[i]? = z[i % z.length]?
  | 0, i, h => by simp at h
  | n + 1, i, h => by
    simp only [zerosOf]
    by_cases hi : i < z.length
    · rw [List.getElem?_append_left hi, Nat.mod_eq_of_lt hi]
    · rw [Nat.add_mul, Nat.one_mul] at h
      have hm := Nat.mod_eq_sub_mod (Nat.le_of_not_lt hi)
      rw [List.getElem?_append_right (Nat.le_of_not_lt hi), zerosOf_get z n _ (by omega), hm]
theorem zerosOf_one (v : Value) (n : Nat) : zerosOf [v] n = List.replicate n v := by
  induction n with
  | zero => rfl
  | succ n ih => simp [zerosOf, ih, List.replicate_succ]
theorem zeros_eq (zero : Array Value) (n : Nat) : ((Array.range (n * zero.size)).map (zero[· % zero.size]!)) = (zerosOf zero.toList n).toArray := by
  apply Array.ext'
  apply List.ext_getElem?
  intro i
  have hl : zero.toList.length = zero.size := by simp
  by_cases hi : i < n * zero.size
  · have hz : 0 < zero.size := by
      rcases Nat.eq_zero_or_pos zero.size with h | h
      · rw [h] at hi; simp at hi
      · exact h
    have hm := Nat.mod_lt i hz
    have h1 := zerosOf_get zero.toList n i (by rw [hl]; exact hi)
    have h2 : (zerosOf zero.toList n).toArray.toList[i]? = zero.toList[i % zero.size]? := by rw [← hl]; exact h1
    rw [h2]
    simp [hi, hm]
  · have h1 : (zerosOf zero.toList n).toArray.toList[i]? = none := List.getElem?_eq_none (by show (zerosOf zero.toList n).length ≤ i; rw [zerosOf_length, hl]; omega)
    rw [h1, List.getElem?_eq_none (by simp; omega)]

theorem RUN.buildSlice {t n e esz eb : Nat} {ps : Array (Nat × Operand)} {vs z r : List Value} (ht : inTau t = true) (hk : (tau t).k = .slice e esz eb) (he : known e = true) (hz : (tau e).zero = some z)
    (hn : Nat.ble (n * esz) 16777216 = true) (hl : Nat.beq z.length esz = true)
    (hf : fillL (fun i => some (i * esz, esz)) (zerosOf z n) ((ps.toList.map (·.1)).zip vs) = some r)
    (k : ∀ b w', New w w' b (B r e) → K (.slice (some ⟨b, 0, none⟩) n n) w') : RUN (.buildSlice t n ps) ty vs w K X := by
  obtain ⟨h1, h2⟩ := known_ok he
  obtain ⟨v, hv, hc⟩ := zero_run h1 h2 hz w
  obtain ⟨hu, j, hj, hs, _⟩ := kslice ht hk
  refine .ok _ (w.alloc (B r e)) ?_ (k _ _ (alloc_new _))
  show (Instr.buildSlice t n _).run PP w = _
  unfold Instr.buildSlice
  have hn' := Nat.le_of_ble_eq_true hn
  have hl' := Nat.eq_of_beq_eq_true hl
  have hz' : v.cells.size = esz := by rw [← hl', ← hc]; simp
  simp only [Sem.run_bind, run_underlying' hu, Result.andThen_ok, run_sizeOf hj, hs]
  rw [if_neg (by show ¬ n * esz > 2 ^ 24; omega)]
  by_cases h0 : n * esz = 0
  · simp only [h0, if_true, Sem.run_pure, Result.andThen_ok, pure_bind]
    have hzz : zerosOf z n = [] := List.eq_nil_of_length_eq_zero (by rw [zerosOf_length, hl', h0])
    rw [hzz] at hf
    have e0 : ((Array.range 0).map fun x => (#[] : Array Value)[x % (#[] : Array Value).size]!) = ([] : List Value).toArray := by rw [Array.range_zero', Array.map_empty]
    rw [e0, fill_eq _ _ _ hf]
    simp only [Sem.run_bind, newRow_run, Result.andThen_ok, Sem.run_pure]
    rfl
  · simp only [h0, if_false, Sem.run_bind, hv, Sem.run_pure, Result.andThen_ok]
    have e0 : ((Array.range (n * esz)).map fun x => v.cells[x % v.cells.size]!) = (zerosOf z n).toArray := by
      rw [← hz', zeros_eq, hc]
    rw [e0, fill_eq _ _ _ hf]
    simp only [Sem.run_bind, newRow_run, Result.andThen_ok, Sem.run_pure]
    rfl

theorem RUN.makeSlice {t e esz eb : Nat} {x y : Operand} {z : List Value} {l c : Int} {k1 k2 : IntKind} {n m : Nat} (ht : inTau t = true) (hk : (tau t).k = .slice e esz eb) (he : known e = true) (hz : (tau e).zero = some z)
    (hl : Nat.beq z.length esz = true) (hn : l = n) (hm : c = m) (hnm : n ≤ m) (hb : m ≤ 2 ^ 40) (heb : Nat.ble eb 256 = true)
    (k : ∀ b w', New w w' b (B (zerosOf z m) e) → K (.slice (some ⟨b, 0, none⟩) n m) w') : RUN (.makeSlice t x y) ty [.int k1 l, .int k2 c] w K X := by
  obtain ⟨h1, h2⟩ := known_ok he
  obtain ⟨v, hv, hc⟩ := zero_run h1 h2 hz w
  obtain ⟨hu, j, hj, hs, hby⟩ := kslice ht hk
  refine .ok _ (w.alloc (B (zerosOf z m) e)) ?_ (k _ _ (alloc_new _))
  show (Instr.makeSlice t _ _).run PP w = _
  unfold Instr.makeSlice
  have hl' := Nat.eq_of_beq_eq_true hl
  have hz' : v.cells.size = esz := by rw [← hl', ← hc]; simp
  have heb' := Nat.le_of_ble_eq_true heb
  have w1 : IntKind.i64.wrap (n : Int) = n := IntWalk.i64_in _ (by omega)
  have w2 : IntKind.i64.wrap (m : Int) = m := IntWalk.i64_in _ (by omega)
  subst hn; subst hm
  have hbig : ((j.bytes : Int) * (m : Int)) ≤ 2 ^ 48 := by
    rw [hby]
    have : eb * m ≤ 256 * 2 ^ 40 := Nat.mul_le_mul heb' hb
    have h3 : ((eb * m : Nat) : Int) ≤ ((256 * 2 ^ 40 : Nat) : Int) := Int.ofNat_le.2 this
    rw [Int.natCast_mul] at h3
    exact h3
  simp only [Sem.run_bind, run_underlying' hu, Result.andThen_ok, asInt, asIntOf, Sem.run_pure, typeInfo, run_program, hj, w1, w2]
  rw [if_neg (by
    simp only [Bool.or_eq_true, decide_eq_true_eq, not_or]
    refine ⟨⟨⟨?_, ?_⟩, ?_⟩, ?_⟩ <;> omega)]
  simp only [Sem.run_bind, run_askRoom, Result.andThen_ok, Int.toNat_natCast, run_sizeOf hj, hs]
  by_cases h0 : m * esz = 0
  · simp only [h0, if_true, pure_bind, Sem.run_bind, Sem.run_pure, Result.andThen_ok, newRow_run]
    have hzz : zerosOf z m = [] := List.eq_nil_of_length_eq_zero (by rw [zerosOf_length, hl', h0])
    have e0 : ((Array.range 0).map fun x => (#[] : Array Value)[x % (#[] : Array Value).size]!) = ([] : List Value).toArray := by rw [Array.range_zero', Array.map_empty]
    rw [hzz, e0]; rfl
  · simp only [h0, if_false, Sem.run_bind, hv, Sem.run_pure, Result.andThen_ok, newRow_run]
    have e0 : ((Array.range (m * esz)).map fun x => v.cells[x % v.cells.size]!) = (zerosOf z m).toArray := by
      rw [← hz', zeros_eq, hc]
    rw [e0]; rfl

theorem buildA_run {t n e esz : Nat} {ps : Array (Nat × Value)} {z r : List Value} (ht : inTau t = true) (hk : (tau t).k = .arr n e esz) (hz : (tau t).zero = some z)
    (hf : fillL (fun i => some (i * esz, esz)) z ps.toList = some r) (w : World) : (Instr.build t ps).run PP w = .ok (.agg r.toArray) w := by
  obtain ⟨v, hv, hc⟩ := zero_run ht (by rw [hk]; simp) hz w
  obtain ⟨hu, j, hj, hs⟩ := karr ht hk
  unfold Instr.build
  simp only [Sem.run_bind, hv, Result.andThen_ok, run_underlying' hu, run_sizeOf hj, hs]
  have e2 : v.cells = z.toArray := by rw [← hc]
  rw [e2, fill_eq _ _ _ hf]
  rfl
theorem RUN.buildArr {t n e esz : Nat} {ps : Array (Nat × Operand)} {vs z r : List Value} (ht : inTau t = true) (hk : (tau t).k = .arr n e esz) (hz : (tau t).zero = some z)
    (hf : fillL (fun i => some (i * esz, esz)) z ((ps.toList.map (·.1)).zip vs) = some r) (k : K (.agg r.toArray) w) : RUN (.build t ps) ty vs w K X :=
  .ok _ w (by show (Instr.build t _).run PP w = _; exact buildA_run ht hk hz hf w) k
theorem index_run {t n e esz : Nat} {cs : List Value} {kd : IntKind} {i : Int} {v : Value} (ht : inTau t = true) (hk : (tau t).k = .arr n e esz) (he : scal e = true) (hi : 0 ≤ i ∧ i < n) (hv : cs[i.toNat * esz]? = some v) (w : World) :
    (Instr.index t (.agg cs.toArray) (.int kd i)).run PP w = .ok v w := by
  obtain ⟨hu, j, hj, hs⟩ := karr ht hk
  obtain ⟨h1, h2, h3⟩ := scal_ok he
  unfold Instr.index
  simp only [Sem.run_bind, asIntOf, Sem.run_pure, Result.andThen_ok, run_underlying' hu, hi, and_self, if_true, run_sizeOf hj, hs, part, notAgg_run h1 h2 h3]
  simp [hv]
theorem RUN.index {t n e esz : Nat} {x y : Operand} {cs : List Value} {kd : IntKind} {i : Int} {v : Value} (ht : inTau t = true) (hk : (tau t).k = .arr n e esz) (he : scal e = true) (hi : 0 ≤ i ∧ i < n) (hv : cs[i.toNat * esz]? = some v) (k : K v w) :
    RUN (.index t x y) ty [.agg cs.toArray, .int kd i] w K X := .ok _ w (index_run ht hk he hi hv w) k
/-- An element that is itself a row of cells. -/
theorem RUN.indexA {t n e esz : Nat} {x y : Operand} {cs vs : List Value} {kd : IntKind} {i : Int} (ht : inTau t = true) (hk : (tau t).k = .arr n e esz) (he : (inTau e && (tau e).agg) = true) (hes : Nat.beq (tau e).size esz = true) (hi : 0 ≤ i ∧ i < n)
    (hv : (cs.drop (i.toNat * esz)).take esz = vs) (k : K (.agg vs.toArray) w) : RUN (.index t x y) ty [.agg cs.toArray, .int kd i] w K X := by
  obtain ⟨hu, j, hj, hs⟩ := karr ht hk
  simp only [Bool.and_eq_true] at he
  have h3 : (tau e).k ≠ .other := by intro h; simp [TE.agg, h] at he
  have hes' := Nat.eq_of_beq_eq_true hes
  refine .ok _ w ?_ k
  show (Instr.index t (.agg cs.toArray) (.int kd i)).run PP w = _
  unfold Instr.index
  simp only [Sem.run_bind, asIntOf, Sem.run_pure, Result.andThen_ok, run_underlying' hu, hi, and_self, if_true, run_sizeOf hj, hs, part, isAgg_run he.1 he.2]
  have : cs.toArray.extract (i.toNat * esz) (i.toNat * esz + esz) = vs.toArray := by
    rw [← hv]; apply Array.ext'; simp [List.drop_take]
  have hsz := size_ok he.1 h3 w
  simp [hsz, hes', this]

/-! Slicing -/
theorem addr_add (b o n : Nat) : Addr.add ⟨b, o, none⟩ n = ⟨b, o + n, none⟩ := by
  simp only [Addr.add]; split
  · rename_i h; subst h; rfl
  · rfl
theorem bound_run {k : IntKind} {i : Int} {y : Nat} (code : BoundsCode) (h : 0 ≤ i ∧ i ≤ y) (w : World) : (Instr.sliceBound (.int k i) y code).run PP w = .ok i.toNat w := by
  unfold Instr.sliceBound
  simp only [Sem.run_bind, asIntOf, Sem.run_pure, Result.andThen_ok, h, and_self, if_true]
def optV (d : Nat) : Option (IntKind × Int) → Int
  | none => d
  | some p => p.2
def optVal : Option (IntKind × Int) → Option Value
  | none => none
  | some p => some (.int p.1 p.2)
theorem bounds_run {isSlice : Bool} {len cap : Nat} {lo hi : Option (IntKind × Int)} (hlen : len ≤ cap) (h1 : 0 ≤ optV 0 lo) (h2 : optV 0 lo ≤ optV len hi) (h3 : optV len hi ≤ cap) (w : World) :
    (Instr.sliceBounds isSlice len cap (optVal lo) (optVal hi) none).run PP w = .ok ((optV 0 lo).toNat, (optV len hi).toNat, cap) w := by
  unfold Instr.sliceBounds
  cases hi with
  | none =>
    cases lo with
    | none => simp [optVal, optV]
    | some p =>
      simp only [optVal, optV] at *
      simp only [Sem.run_bind, Sem.run_pure, Result.andThen_ok]
      rw [bound_run _ ⟨h1, by omega⟩]
      simp
  | some q =>
    cases lo with
    | none =>
      simp only [optVal, optV] at *
      simp only [Sem.run_bind, Sem.run_pure, Result.andThen_ok]
      rw [bound_run _ ⟨by omega, h3⟩]
      simp
    | some p =>
      simp only [optVal, optV] at *
      simp only [Sem.run_bind, Sem.run_pure, Result.andThen_ok]
      rw [bound_run _ ⟨by omega, h3⟩]
      simp only [Result.andThen_ok]
      rw [bound_run _ ⟨h1, by omega⟩]
      simp
theorem slice_run {t e esz eb b o n c : Nat} {lo hi : Option (IntKind × Int)} (ht : inTau t = true) (hk : (tau t).k = .slice e esz eb) (hlen : n ≤ c) (h1 : 0 ≤ optV 0 lo) (h2 : optV 0 lo ≤ optV n hi) (h3 : optV n hi ≤ c) (w : World) :
    (Instr.sliceAt t (.slice (some ⟨b, o, none⟩) n c) (optVal lo) (optVal hi) none).run PP w =
      .ok (.slice (some ⟨b, if (c : Int) = optV 0 lo then o else o + (optV 0 lo).toNat * esz, none⟩) ((optV n hi).toNat - (optV 0 lo).toNat) (c - (optV 0 lo).toNat)) w := by
  obtain ⟨hu, j, hj, hs, hby⟩ := kslice ht hk
  unfold Instr.sliceAt
  simp only [Sem.run_bind, run_underlying' hu, Result.andThen_ok, Instr.slice]
  rw [bounds_run hlen h1 h2 h3]
  simp only [Result.andThen_ok, run_sizeOf hj, hs, Sem.run_pure, Option.map_some, addr_add]
  by_cases h : (c : Int) = optV 0 lo
  · rw [if_pos (by omega), if_pos h]
  · rw [if_neg (by omega), if_neg h]
theorem slice_run_nil {t e esz eb : Nat} (ht : inTau t = true) (hk : (tau t).k = .slice e esz eb) {lo hi : Option (IntKind × Int)} (h1 : optV 0 lo = 0) (h2 : optV 0 hi = 0) (w : World) :
    (Instr.sliceAt t (.slice none 0 0) (optVal lo) (optVal hi) none).run PP w = .ok (.slice none 0 0) w := by
  obtain ⟨hu, j, hj, hs, hby⟩ := kslice ht hk
  unfold Instr.sliceAt
  simp only [Sem.run_bind, run_underlying' hu, Result.andThen_ok, Instr.slice]
  rw [bounds_run (Nat.le_refl _) (by omega) (by omega) (by omega)]
  simp only [Result.andThen_ok, run_sizeOf hj, hs, Sem.run_pure, h1, h2]
  rfl
theorem slice_run_arr {t e esz b o n : Nat} {lo hi : Option (IntKind × Int)} (ht : inTau t = true) (hk : (tau t).k = .arr n e esz) (h1 : 0 ≤ optV 0 lo) (h2 : optV 0 lo ≤ optV n hi) (h3 : optV n hi ≤ n) (w : World) :
    (Instr.sliceAt t (.pointer (some ⟨b, o, none⟩)) (optVal lo) (optVal hi) none).run PP w =
      .ok (.slice (some ⟨b, if (n : Int) = optV 0 lo then o else o + (optV 0 lo).toNat * esz, none⟩) ((optV n hi).toNat - (optV 0 lo).toNat) (n - (optV 0 lo).toNat)) w := by
  obtain ⟨hu, j, hj, hs⟩ := karr ht hk
  unfold Instr.sliceAt
  simp only [Sem.run_bind, run_underlying' hu, Result.andThen_ok, Instr.sureAddr, Sem.run_pure]
  rw [bounds_run (Nat.le_refl _) h1 h2 h3]
  simp only [Result.andThen_ok, run_sizeOf hj, hs, Sem.run_pure, addr_add]
  by_cases h : (n : Int) = optV 0 lo
  · rw [if_pos (by omega), if_pos h]
  · rw [if_neg (by omega), if_neg h]

theorem sem_slice (t : TypeId) (x : Operand) (lo hi : Option Operand) (v : Value) (vlo vhi : Option (IntKind × Int)) (h1 : lo.isSome = vlo.isSome) (h2 : hi.isSome = vhi.isSome) :
    semOf (.slice t x lo hi none) ty (v :: ((optVal vlo).toList ++ (optVal vhi).toList)) = Instr.sliceAt t v (optVal vlo) (optVal vhi) none := by
  cases lo <;> cases hi <;> cases vlo <;> cases vhi <;> simp_all [semOf, optVal]
/-- s[lo:hi]; the place, the length, the capacity come out as letters. -/
theorem RUN.slice {t e esz eb b o n c : Nat} {x : Operand} {lo hi : Option Operand} {vs : List Value} (vlo vhi : Option (IntKind × Int)) (ht : inTau t = true) (hk : (tau t).k = .slice e esz eb)
    (hvs : vs = .slice (some ⟨b, o, none⟩) n c :: ((optVal vlo).toList ++ (optVal vhi).toList)) (hlo : lo.isSome = vlo.isSome) (hhi : hi.isSome = vhi.isSome)
    (hlen : n ≤ c) (h1 : 0 ≤ optV 0 vlo) (h2 : optV 0 vlo ≤ optV n vhi) (h3 : optV n vhi ≤ c)
    (k : ∀ o' n' c', o' = (if (c : Int) = optV 0 vlo then o else o + (optV 0 vlo).toNat * esz) → n' = (optV n vhi).toNat - (optV 0 vlo).toNat → c' = c - (optV 0 vlo).toNat →
      K (.slice (some ⟨b, o', none⟩) n' c') w) : RUN (.slice t x lo hi none) ty vs w K X := by
  subst hvs
  exact .ok _ w (by rw [sem_slice _ _ _ _ _ _ _ hlo hhi]; exact slice_run ht hk hlen h1 h2 h3 w) (k _ _ _ rfl rfl rfl)
theorem RUN.sliceNil {t e esz eb : Nat} {x : Operand} {lo hi : Option Operand} {vs : List Value} (vlo vhi : Option (IntKind × Int)) (ht : inTau t = true) (hk : (tau t).k = .slice e esz eb)
    (hvs : vs = .slice none 0 0 :: ((optVal vlo).toList ++ (optVal vhi).toList)) (hlo : lo.isSome = vlo.isSome) (hhi : hi.isSome = vhi.isSome) (h1 : optV 0 vlo = 0) (h2 : optV 0 vhi = 0)
    (k : K (.slice none 0 0) w) : RUN (.slice t x lo hi none) ty vs w K X := by
  subst hvs
  exact .ok _ w (by rw [sem_slice _ _ _ _ _ _ _ hlo hhi]; exact slice_run_nil ht hk h1 h2 w) k
theorem RUN.sliceArr {t e esz b o n : Nat} {x : Operand} {lo hi : Option Operand} {vs : List Value} (vlo vhi : Option (IntKind × Int)) (ht : inTau t = true) (hk : (tau t).k = .arr n e esz)
    (hvs : vs = .pointer (some ⟨b, o, none⟩) :: ((optVal vlo).toList ++ (optVal vhi).toList)) (hlo : lo.isSome = vlo.isSome) (hhi : hi.isSome = vhi.isSome)
    (h1 : 0 ≤ optV 0 vlo) (h2 : optV 0 vlo ≤ optV n vhi) (h3 : optV n vhi ≤ n)
    (k : ∀ o' n' c', o' = (if (n : Int) = optV 0 vlo then o else o + (optV 0 vlo).toNat * esz) → n' = (optV n vhi).toNat - (optV 0 vlo).toNat → c' = n - (optV 0 vlo).toNat →
      K (.slice (some ⟨b, o', none⟩) n' c') w) : RUN (.slice t x lo hi none) ty vs w K X := by
  subst hvs
  exact .ok _ w (by rw [sem_slice _ _ _ _ _ _ _ hlo hhi]; exact slice_run_arr ht hk h1 h2 h3 w) (k _ _ _ rfl rfl rfl)

/-! Slices as lists -/
/-- A slice value that reads as the cells cs (n elements of k cells), in a row among S; what stands behind it in its row up to its capacity is its own too. -/
def Sl (w : World) (S : Nat → Prop) (T k : Nat) (v : Value) (n : Nat) (cs : List Value) : Prop :=
  cs.length = n * k ∧ ((n = 0 ∧ v = .slice none 0 0) ∨
    ∃ b o cap pre post, v = .slice (some ⟨b, o, none⟩) n cap ∧ S b ∧ At w b (B (pre ++ cs ++ post) T) ∧ pre.length = o ∧ n ≤ cap ∧ (cap - n) * k ≤ post.length)
theorem Sl.ch {w w' : World} {S U : Nat → Prop} {T k n : Nat} {v : Value} {cs : List Value} (h : Sl w S T k v n cs) (hc : Ch U w w') (hd : ∀ b, b < w.heap.size → S b → ¬ U b) : Sl w' S T k v n cs := by
  obtain ⟨h1, h2⟩ := h
  refine ⟨h1, ?_⟩
  rcases h2 with h2 | ⟨b, o, cap, pre, post, hv, hs, hat, h3, h4, h5⟩
  · exact .inl h2
  · exact .inr ⟨b, o, cap, pre, post, hv, hs, hc.at hat (hd b hat.lt hs), h3, h4, h5⟩
theorem Sl.mono {w : World} {S U : Nat → Prop} {T k n : Nat} {v : Value} {cs : List Value} (h : Sl w S T k v n cs) (hd : ∀ b, b < w.heap.size → S b → U b) : Sl w U T k v n cs := by
  obtain ⟨h1, h2⟩ := h
  refine ⟨h1, ?_⟩
  rcases h2 with h2 | ⟨b, o, cap, pre, post, hv, hs, hat, h3, h4, h5⟩
  · exact .inl h2
  · exact .inr ⟨b, o, cap, pre, post, hv, hd b hat.lt hs, hat, h3, h4, h5⟩
theorem Sl.nil (w : World) (S : Nat → Prop) (T k : Nat) : Sl w S T k (.slice none 0 0) 0 [] := ⟨by simp, .inl ⟨rfl, rfl⟩⟩
theorem Sl.of_new {w w' : World} {b T k n : Nat} {cs : List Value} (h : New w w' b (B cs T)) (hn : cs.length = n * k) (S : Nat → Prop) (hs : S b) : Sl w' S T k (.slice (some ⟨b, 0, none⟩) n n) n cs :=
  ⟨hn, .inr ⟨b, 0, n, [], [], rfl, hs, by simpa using h.here, rfl, Nat.le_refl _, by simp⟩⟩

theorem firstCells_run {w : World} {S : Nat → Prop} {T k n : Nat} {v : Value} {cs : List Value} (h : Sl w S T k v n cs) : (Builtin.firstCells k n v).run PP w = .ok cs.toArray w := by
  obtain ⟨h1, h2⟩ := h
  rcases h2 with ⟨rfl, rfl⟩ | ⟨b, o, cap, pre, post, rfl, hs, hat, h3, h4, h5⟩
  · have : cs = [] := List.eq_nil_of_length_eq_zero (by simpa using h1)
    subst this; rfl
  · show (loadCells ⟨b, o, none⟩ (n * k)).run PP w = _
    unfold loadCells
    rw [loadCells_go hat o _ 0 _ (by simp; omega)]
    subst h3
    simp [← h1]
theorem lenOf_run {w : World} {S : Nat → Prop} {T k n : Nat} {v : Value} {cs : List Value} (h : Sl w S T k v n cs) : (Builtin.lenOf v).run PP w = .ok n w := by
  obtain ⟨h1, h2⟩ := h
  rcases h2 with ⟨rfl, rfl⟩ | ⟨b, o, cap, pre, post, rfl, hs, hat, h3, h4, h5⟩ <;> rfl

theorem growBy_le (need : Nat) : ∀ (r c : Nat), c ≤ need → Builtin.growBy need r c ≤ 2 * need + 768
  | 0, c, h => by simp [Builtin.growBy]; omega
  | r + 1, c, h => by
    simp only [Builtin.growBy]
    split
    · omega
    · by_cases h2 : c + (c + 768) / 4 ≤ need
      · exact growBy_le need r _ h2
      · cases r with
        | zero => simp only [Builtin.growBy]; omega
        | succ r => simp only [Builtin.growBy]; rw [if_pos (by omega)]; omega
theorem nextcap_le {need old : Nat} (h : old < need) : Builtin.nextslicecap need old ≤ 2 * need + 768 := by
  unfold Builtin.nextslicecap
  split
  · omega
  · split
    · omega
    · exact growBy_le need 4 old (by omega)

theorem zeroCells_len (z : Array Value) (n : Nat) : (Builtin.zeroCells z n).toList.length = n * z.size := by simp [Builtin.zeroCells]
theorem setAt_app (pre cs post ys : List Value) (h : ys.length ≤ post.length) : setAt (pre ++ cs ++ post) (pre.length + cs.length) ys = pre ++ (cs ++ ys) ++ post.drop ys.length := by
  apply List.ext_getElem?; intro j
  rw [setAt_eq _ _ _ _ (by simp; omega)]
  by_cases hj : pre.length + cs.length ≤ j ∧ j < pre.length + cs.length + ys.length
  · rw [if_pos hj, List.append_assoc, List.append_assoc, List.getElem?_append_right (by omega), List.getElem?_append_right (by omega), List.getElem?_append_left (by omega)]
    congr 1; omega
  · rw [if_neg hj]
    by_cases hj2 : j < pre.length + cs.length
    · have e1 : (pre ++ cs ++ post)[j]? = (pre ++ cs)[j]? := List.getElem?_append_left (by simpa using hj2)
      have e2 : ((pre ++ cs) ++ (ys ++ List.drop ys.length post))[j]? = (pre ++ cs)[j]? := List.getElem?_append_left (by simpa using hj2)
      rw [e1, show pre ++ (cs ++ ys) ++ List.drop ys.length post = (pre ++ cs) ++ (ys ++ List.drop ys.length post) by simp, e2]
    · rw [List.getElem?_append_right (by simp; omega)]
      rw [show pre ++ (cs ++ ys) ++ List.drop ys.length post = (pre ++ cs ++ ys) ++ List.drop ys.length post by simp]
      rw [List.getElem?_append_right (by simp; omega), List.getElem?_drop]
      congr 1; simp; omega

theorem append_in {t t' e esz eb n m cap : Nat} {base : Option Addr} {x : Value} {ys : List Value} (ht : inTau t = true) (hk : (tau t).k = .slice e esz eb) (ht' : (inTau t' && isSl (tau t').k) = true)
    (hx1 : (Builtin.lenOf x).run PP w = .ok m w) (hx2 : (Builtin.firstCells esz m x).run PP w = .ok ys.toArray w) (hcap : n + m ≤ cap) :
    (Builtin.append_ #[t, t'] ty #[.slice base n cap, x]).run PP w = ((match base with | some a => storeCells (a.add (n * esz)) ys | none => pure ()).run PP w).andThen fun _ w' => .ok (.slice base (n + m) cap) w' := by
  obtain ⟨hu, j, hj, hsz, hby⟩ := kslice ht hk
  simp only [Bool.and_eq_true] at ht'
  obtain ⟨e2, s2, b2, hk'⟩ : ∃ e s b, (tau t').k = .slice e s b := by cases hk : (tau t').k <;> simp [isSl, hk] at ht'; exact ⟨_, _, _, rfl⟩
  have hu' := (kslice ht'.1 hk').1
  unfold Builtin.append_
  simp only [List.getElem?_toArray, List.getElem?_cons_zero, List.getElem?_cons_succ, Sem.run_bind, run_underlying' hu, run_underlying' hu', Result.andThen_ok, run_sizeOf hj, hsz, Sem.run_pure]
  simp only [Bool.false_eq_true, if_false, hx1, Result.andThen_ok, if_pos hcap, Bool.not_false, if_true, Sem.run_bind, hx2]
  cases base <;> simp
theorem append_out {t t' e esz eb n m cap : Nat} {base : Option Addr} {x zv : Value} {cs ys : List Value} (ht : inTau t = true) (hk : (tau t).k = .slice e esz eb) (ht' : (inTau t' && isSl (tau t').k) = true)
    (hx1 : (Builtin.lenOf x).run PP w = .ok m w) (hx2 : ∀ w', Ext w w' → (Builtin.firstCells esz m x).run PP w' = .ok ys.toArray w') (hs2 : ∀ w', Ext w w' → (Builtin.firstCells esz n (.slice base n cap)).run PP w' = .ok cs.toArray w') (hcap : ¬ n + m ≤ cap)
    (hz : ∀ w, (zeroValue e).run PP w = .ok zv w) (hb : n + m ≤ 2 ^ 36) (heb : eb ≤ 256) :
    ∃ nc w', n + m ≤ nc ∧ (Builtin.append_ #[t, t'] ty #[.slice base n cap, x]).run PP w = .ok (.slice (some ⟨w.heap.size, 0, none⟩) (n + m) nc) w' ∧ New w w' w.heap.size (B (cs ++ ys ++ (Builtin.zeroCells zv.cells (nc - (n + m))).toList) e) := by
  obtain ⟨hu, j, hj, hsz, hby⟩ := kslice ht hk
  simp only [Bool.and_eq_true] at ht'
  obtain ⟨e2, s2, b2, hk'⟩ : ∃ e s b, (tau t').k = .slice e s b := by cases hk : (tau t').k <;> simp [isSl, hk] at ht'; exact ⟨_, _, _, rfl⟩
  have hu' := (kslice ht'.1 hk').1
  have hnc := nextcap_le (Nat.lt_of_not_le hcap)
  have hdrew : Ext w { w with drawn := w.drawn + 1 } := ⟨Nat.le_refl _, fun _ _ _ => rfl, rfl, rfl⟩
  let nc := Question.cut (.appendCap (n + m) cap e) (w.tape w.drawn (.appendCap (n + m) cap e))
  have hle : n + m ≤ nc := by simp only [nc, Question.cut]; omega
  refine ⟨nc, (World.alloc { w with drawn := w.drawn + 1 } (B (cs ++ ys ++ (Builtin.zeroCells zv.cells (nc - (n + m))).toList) e)), hle, ?_, ?_⟩
  · unfold Builtin.append_
    simp only [List.getElem?_toArray, List.getElem?_cons_zero, List.getElem?_cons_succ, Sem.run_bind, run_underlying' hu, run_underlying' hu', Result.andThen_ok, run_sizeOf hj, hsz, Sem.run_pure]
    have hbyt : ∀ w, (typeInfo e).run PP w = .ok j w := by intro w; simp [typeInfo, hj]
    have hbig : ¬ (Builtin.nextslicecap (n + m) cap * j.bytes > 2 ^ 48) := by
      rw [hby]
      have : Builtin.nextslicecap (n + m) cap * eb ≤ (2 * 2 ^ 36 + 768) * 256 := Nat.mul_le_mul (by omega) heb
      omega
    have hneg : ¬ (((n + m : Nat) : Int) > IntKind.i64.max) := by rw [IntKind.max_i64]; omega
    simp only [Bool.false_eq_true, if_false, hx1, Result.andThen_ok, if_neg hcap, Sem.run_bind]
    rw [hbyt, Result.andThen_ok, if_neg (fun h => hneg h.1)]
    simp only [Sem.run_bind]
    rw [hbyt, Result.andThen_ok, if_neg hbig]
    simp only [Sem.run_bind, run_choose]
    have hfo : (Question.appendCap (n + m) cap e).forced = false := rfl
    simp only [hfo, Bool.false_eq_true, if_false, Result.andThen_ok, hbyt, run_askRoom, hs2 _ hdrew, hx2 _ hdrew, Bool.not_false, if_true, hz, newRow_run, Sem.run_pure]
    simp only [nc, B]
    congr 2
    simp
  · exact ⟨rfl, by unfold At World.alloc; simp, by simp, fun b' hb' => by simp only [World.alloc, Array.getElem?_push]; rw [if_neg (by simpa using Nat.ne_of_lt hb')], rfl, rfl⟩

theorem RUN.append {t t' e esz eb e' n m : Nat} {args : Array Operand} {s x : Value} {cs ys z : List Value} {S U : Nat → Prop} (ht : inTau t = true) (hk : (tau t).k = .slice e esz eb) (ht' : (inTau t' && isSl (tau t').k) = true)
    (he : known e = true) (hz : (tau e).zero = some z) (hzl : Nat.beq z.length esz = true) (hs : Sl w S e esz s n cs) (hx : Sl w U e' esz x m ys) (hsc : ∀ v ∈ ys, v.oneCell' = true) (hb : n + m ≤ 2 ^ 36) (heb : Nat.ble eb 256 = true)
    (k : ∀ a c w', (∃ S' : Nat → Prop, (∀ b, S' b → S b ∨ w.heap.size ≤ b) ∧ Sl w' S' e esz (.slice a (n + m) c) (n + m) (cs ++ ys)) → Ch S w w' → K (.slice a (n + m) c) w') :
    RUN (.call ⟨.builtin .append, args, #[t, t']⟩) ty [s, x] w K X := by
  obtain ⟨h1, h2⟩ := known_ok he
  have heb' := Nat.le_of_ble_eq_true heb
  have hzl' := Nat.eq_of_beq_eq_true hzl
  have hx1 := lenOf_run hx
  have hx2 : ∀ w', Ext w w' → (Builtin.firstCells esz m x).run PP w' = .ok ys.toArray w' := fun w' hw => firstCells_run (hx.ch hw (fun _ _ _ h => h))
  have hs2 : ∀ w', Ext w w' → (Builtin.firstCells esz n s).run PP w' = .ok cs.toArray w' := fun w' hw => firstCells_run (hs.ch hw (fun _ _ _ h => h))
  obtain ⟨i0, d0, hi0, hs0, hd0, hok0, hz0⟩ := info_of h1 h2
  obtain ⟨zv, hzv, hzc⟩ := hz0 z hz
  have hzr : ∀ w, (zeroValue e).run PP w = .ok zv w := fun w => by unfold zeroValue; simp only [Sem.run_bind, typeInfo, run_program, Result.andThen_ok, hi0, Sem.run_pure, hzv]
  have hzs : zv.cells.size = esz := by rw [← hzl', ← hzc]; simp
  obtain ⟨hl, hcase⟩ := hs
  have hyl := hx.1
  have hlen : (cs ++ ys).length = (n + m) * esz := by rw [List.length_append, hl, hyl, Nat.add_mul]
  have out : ∀ (base : Option Addr) (cap : Nat), s = .slice base n cap → ¬ n + m ≤ cap → RUN (.call ⟨.builtin .append, args, #[t, t']⟩) ty [s, x] w K X := by
    intro base cap hsv hcap
    subst hsv
    obtain ⟨nc, w', hle, hr, hnew⟩ := append_out (ty := ty) ht hk ht' hx1 hx2 hs2 hcap hzr hb heb'
    refine .ok _ w' hr (k _ _ _ ⟨fun b => b = w.heap.size, fun b hb => .inr (by omega), hlen, .inr ⟨w.heap.size, 0, nc, [], (Builtin.zeroCells zv.cells (nc - (n + m))).toList, rfl, rfl, ?_, rfl, hle, ?_⟩⟩ hnew.ext.ch)
    · simpa using hnew.here
    · rw [zeroCells_len, hzs]; exact Nat.le_refl _
  rcases hcase with ⟨rfl, rfl⟩ | ⟨b, o, cap, pre, post, rfl, hS, hat, h3, h4, h5⟩
  · by_cases hm : m = 0
    · subst hm
      have hr := append_in (ty := ty) (base := none) (cap := 0) ht hk ht' hx1 (hx2 w (Ext.refl w)) (Nat.le_refl 0)
      have hy : ys = [] := List.eq_nil_of_length_eq_zero (by simpa using hyl)
      have hc : cs = [] := List.eq_nil_of_length_eq_zero (by simpa using hl)
      have hr2 : (Builtin.append_ #[t, t'] ty #[.slice none 0 0, x]).run PP w = .ok (.slice none 0 0) w := by simpa using hr
      refine .ok _ w hr2 (k none 0 _ ⟨S, fun b hb => .inl hb, hlen, .inl ⟨rfl, rfl⟩⟩ (Ch.refl _ _))
    · exact out none 0 rfl (by omega)
  · by_cases hcap : n + m ≤ cap
    · have hr := append_in (ty := ty) (base := some ⟨b, o, none⟩) ht hk ht' hx1 (hx2 w (Ext.refl w)) hcap
      have hmk : m * esz ≤ post.length := Nat.le_trans (Nat.mul_le_mul_right _ (by omega : m ≤ cap - n)) h5
      obtain ⟨w', hst, hu⟩ := storeCells_go (o + n * esz) ys 0 _ w hat hsc (by simp; omega)
      have e1 : o + n * esz + 0 = pre.length + cs.length := by omega
      rw [e1, setAt_app _ _ _ _ (by omega)] at hu
      refine .ok (.slice (some ⟨b, o, none⟩) (n + m) cap) w' ?_ (k _ _ _ ⟨S, fun b hb => .inl hb, hlen, .inr ⟨b, o, cap, pre, post.drop ys.length, rfl, hS, hu.here, h3, hcap, ?_⟩⟩ (hu.ch.mono fun x _ hx => hx ▸ hS))
      · show (Builtin.append_ #[t, t'] ty #[.slice (some ⟨b, o, none⟩) n cap, x]).run PP w = _
        rw [hr]
        simp only [addr_add]
        rw [hst]; rfl
      · rw [List.length_drop, hyl]
        have : (cap - (n + m)) * esz = (cap - n) * esz - m * esz := by rw [← Nat.sub_mul]; congr 1; omega
        omega
    · exact out _ cap rfl hcap
end
end Go.E
end
