/- The walk's own words. -/
import Derived.KernelRfl
import Derived.Laws.FloatArith
import Derived.Test.YtnbekdcepnfpaaaGreatDoorG03
set_option linter.unusedVariables false
set_option linter.unusedSimpArgs false
set_option maxRecDepth 10000
noncomputable section
namespace Go.E
open Go

/-- The head's operations in their own order, all of which only look. -/
def qs : Nat → Nat → List (Nat × Tk)
  | 0, _ => []
  | n + 1, i => (i, .q) :: qs n (i + 1)

theorem DRAW.q {n id : Nat} {ops : Array Oper} {ρ : Fr} {ds : List Deferred} {w : World} {K : Exit → Fr → List Deferred → World → Prop} (m : Nat) (ord : List (Nat × Tk))
    (hB : drawB ops m ord = true) (hK : ∀ c ρ ρ' ds w, K (.panic c) ρ ds w → K (.panic c) ρ' ds w)
    (h : dDraw n ops (ops.toList.drop m) ord (Ext w) ρ ds w K) : DRAW n id ops ρ ds w K :=
  DRAW.of m ord (Ext w) hB hK (fun _ _ h h' => h.trans' h') (Ext.refl w) h
theorem DRAW.k {n id : Nat} {ops : Array Oper} {ρ : Fr} {ds : List Deferred} {w : World} {K : Exit → Fr → List Deferred → World → Prop} (m : Nat) (ord : List (Nat × Tk)) (bs : List Nat)
    (hB : drawB ops m ord = true) (hK : ∀ c ρ ρ' ds w, K (.panic c) ρ ds w → K (.panic c) ρ' ds w)
    (h : dDraw n ops (ops.toList.drop m) ord (Keep w bs) ρ ds w K) : DRAW n id ops ρ ds w K :=
  DRAW.of m ord (Keep w bs) hB hK (Keep.ext w bs) (Keep.refl w bs) h

section
variable {ty : TypeId} {w : World} {K : Value → Prop}
theorem RUNQ.ld {t : TypeId} {x : Operand} {b o : Nat} {cs : List Value} {T : TypeId} {v : Value} (hb : At w b (B cs T)) (ht : scal t = true) (hv : cs[o]? = some v) (k : K v) :
    RUNQ (Ext w) (.load t x) ty [.pointer (some ⟨b, o, none⟩)] K := .mk v (fun w' hs => load_run ht (hs.at hb) hv) k
theorem RUNQ.ldi {t : TypeId} {x : Operand} {b o : Nat} {cs : List Value} {T : TypeId} {kd : IntKind} {n : Int} (hb : At w b (B cs T)) (ht : scal t = true) (hv : cs[o]? = some (.int kd n)) (k : ∀ y, y = n → K (.int kd y)) :
    RUNQ (Ext w) (.load t x) ty [.pointer (some ⟨b, o, none⟩)] K := .mk _ (fun w' hs => load_run ht (hs.at hb) hv) (k n rfl)
theorem RUNQ.lda {t : TypeId} {x : Operand} {b o : Nat} {cs vs : List Value} {T : TypeId} (hb : At w b (B cs T)) (h1 : (inTau t && (tau t).agg) = true) (ho : o + (tau t).size ≤ cs.length) (hv : (cs.drop o).take (tau t).size = vs) (k : K (.agg vs.toArray)) :
    RUNQ (Ext w) (.load t x) ty [.pointer (some ⟨b, o, none⟩)] K := by
  simp only [Bool.and_eq_true] at h1
  exact .mk _ (fun w' hs => loadA_run h1.1 h1.2 (hs.at hb) ho hv) k
theorem RUNQ.kld {t : TypeId} {x : Operand} {b o : Nat} {cs : List Value} {T : TypeId} {v : Value} {bs : List Nat} (hb : At w b (B cs T)) (hm : b ∈ bs) (ht : scal t = true) (hv : cs[o]? = some v) (k : K v) :
    RUNQ (Keep w bs) (.load t x) ty [.pointer (some ⟨b, o, none⟩)] K := .mk v (fun w' hs => load_run ht (hs.at hm hb) hv) k
theorem RUNQ.kldi {t : TypeId} {x : Operand} {b o : Nat} {cs : List Value} {T : TypeId} {kd : IntKind} {n : Int} {bs : List Nat} (hb : At w b (B cs T)) (hm : b ∈ bs) (ht : scal t = true) (hv : cs[o]? = some (.int kd n)) (k : ∀ y, y = n → K (.int kd y)) :
    RUNQ (Keep w bs) (.load t x) ty [.pointer (some ⟨b, o, none⟩)] K := .mk _ (fun w' hs => load_run ht (hs.at hm hb) hv) (k n rfl)
end

/-- A call, by its contract. -/
theorem CALL.by {f : Nat} {args : List Value} {w : World} {K : Value → World → Prop} {X : List PanicEntry → World → Prop} {R : Ending → World → Prop} (h : Calls PP f args.toArray w R) (hc : okc f = true)
    (k : ∀ e w', R e w' → (match e with | .returned v => K v w' | .panicked c => X c w' | .outgrown => False)) : CALL f args w K X := .mk hc (h.mono k)
/-- A call that returns. -/
theorem CALL.ret {f : Nat} {args : List Value} {w : World} {K : Value → World → Prop} {X : List PanicEntry → World → Prop} {V : Value → World → Prop} (h : Calls PP f args.toArray w (fun e w' => ∃ v, e = .returned v ∧ V v w')) (hc : okc f = true)
    (k : ∀ v w', V v w' → K v w') : CALL f args w K X := .mk hc (h.mono fun e w' ⟨v, he, hv⟩ => by subst he; exact k v w' hv)

/-! Arithmetic within its bounds -/
section
variable {K : Int → Prop} {a b : Int}
theorem ART.add (h : -9223372036854775808 ≤ a + b ∧ a + b ≤ 9223372036854775807) (k : ∀ r, r = a + b → K r) : ART .add .i64 a b K :=
  .mk _ (by simp only [artV, IntWalk.i64_in _ h]) (k _ rfl)
theorem ART.sub (h : -9223372036854775808 ≤ a - b ∧ a - b ≤ 9223372036854775807) (k : ∀ r, r = a - b → K r) : ART .sub .i64 a b K :=
  .mk _ (by simp only [artV, IntWalk.i64_in _ h]) (k _ rfl)
theorem ART.mul (h : -9223372036854775808 ≤ a * b ∧ a * b ≤ 9223372036854775807) (k : ∀ r, r = a * b → K r) : ART .mul .i64 a b K :=
  .mk _ (by simp only [artV, IntWalk.i64_in _ h]) (k _ rfl)
theorem ART.quo (ha : 0 ≤ a) (hb : 0 < b) (hm : a ≤ 9223372036854775807) (k : ∀ r, r = a / b → K r) : ART .quo .i64 a b K := by
  refine .mk (a / b) ?_ (k _ rfl)
  have h1 : a.tdiv b = a / b := by rw [Int.tdiv_eq_ediv_of_nonneg ha]
  have h2 : 0 ≤ a / b := Int.ediv_nonneg ha (by omega)
  have h3 : a / b ≤ a := Int.ediv_le_self b ha
  simp only [artV]
  rw [if_neg (by omega), h1, IntWalk.i64_in _ ⟨by omega, by omega⟩]
theorem ART.rem (ha : 0 ≤ a) (hb : 0 < b) (k : ∀ r, r = a % b → K r) : ART .rem .i64 a b K := by
  refine .mk (a % b) ?_ (k _ rfl)
  simp only [artV]
  rw [if_neg (by omega), Int.tmod_eq_emod_of_nonneg ha]
end

/-! ### Loops -/
def agree (ρ : Fr) : List (Nat × Value) → Prop
  | [] => True
  | (i, v) :: l => ρ.get i = v ∧ agree ρ l
def FR (j : Nat → Value) : List (Nat × Value) → Fr
  | [] => .base j
  | (i, v) :: l => .cons i v (FR j l)
theorem FR_eq {ρ : Fr} : ∀ {l : List (Nat × Value)}, agree ρ l → FrEq ρ (FR ρ.get l)
  | [], _ => fun t => rfl
  | (i, v) :: l, h => fun t => by
    simp only [FR, Fr.get_cons]
    cases hb : Nat.beq i t with
    | true => have := Nat.eq_of_beq_eq_true hb; subst this; exact h.1
    | false => exact FR_eq h.2 t
/-- What holds at a round's head. -/
def InvI {X : Type} (fr : X → List (Nat × Value)) (P : X → World → Prop) (μ : X → Nat) (ds : List Deferred) (m : Nat) (ρ : Fr) (ds' : List Deferred) (w : World) : Prop :=
  ds' = ds ∧ ∃ x j, ρ = FR j (fr x) ∧ P x w ∧ μ x = m
theorem Nxt.mk {X : Type} {fr : X → List (Nat × Value)} {P : X → World → Prop} {μ : X → Nat} {ds : List Deferred} {m : Nat} {ρ' : Fr} {w' : World} (x : X) (h : agree ρ' (fr x)) (hP : P x w') (hm : μ x < m) : NxtI (InvI fr P μ ds) m ρ' ds w' :=
  .mk _ hm _ (FR_eq h) ⟨rfl, x, _, rfl, hP, rfl⟩
theorem LOOP.inv {D : Fr → List Deferred → World → (Exit → Fr → List Deferred → World → Prop) → Prop} {ρ : Fr} {ds : List Deferred} {w : World} {K : Exit → Fr → List Deferred → World → Prop}
    {X : Type} (fr : X → List (Nat × Value)) (P : X → World → Prop) (μ : X → Nat) (x0 : X) (h0 : agree ρ (fr x0)) (hP : P x0 w)
    (round : ∀ x w, P x w → ∀ j, D (FR j (fr x)) ds w (fun e ρ' ds' w' => match e with | .normal => NxtI (InvI fr P μ ds) (μ x) ρ' ds' w' | e => K e ρ' ds' w')) : LOOP D ρ ds w K := by
  refine .mk (InvI fr P μ ds) (μ x0) ⟨_, FR_eq h0, rfl, x0, _, rfl, hP, rfl⟩ ?_
  rintro m ρ ds' w ⟨rfl, x, j, rfl, hP, rfl⟩
  exact round x w hP j
end Go.E
end
/- More words of the walk: least and greatest, floats, functions without a body. -/
set_option linter.unusedVariables false
set_option linter.unusedSimpArgs false
set_option maxRecDepth 10000
noncomputable section
namespace Go.E
open Go Go.Proofs

abbrev pt (b : Nat) : Value := .pointer (some ⟨b, 0, none⟩)
abbrev nilp : Value := .pointer none
abbrev nils : Value := .slice none 0 0
abbrev i64 (n : Int) : Value := .int .i64 n
/-- A function that only looks, and may make new blocks: its result. -/
abbrev Pure (w : World) (v : Value) : Ending → World → Prop := fun e w' => e = .returned v ∧ Ext w w'

section
variable {ty : TypeId} {w : World} {K : Value → World → Prop} {X : List PanicEntry → World → Prop} {args : Array Operand} {ts : Array TypeId} {kd kd' : IntKind} {x y z : Int}
theorem min2_run (w : World) : (Builtin.min2 (.int kd x) (.int kd' y)).run PP w = .ok (.int kd (min x y)) w := by
  simp only [Builtin.min2, Sem.run_pure]
  congr 2
  by_cases h : y < x
  · rw [if_pos h]; omega
  · rw [if_neg h]; omega
theorem max2_run (w : World) : (Builtin.max2 (.int kd x) (.int kd' y)).run PP w = .ok (.int kd (max x y)) w := by
  simp only [Builtin.max2, Sem.run_pure]
  congr 2
  by_cases h : y > x
  · rw [if_pos h]; omega
  · rw [if_neg h]; omega
theorem RUN.min2 (k : ∀ r, r = min x y → K (.int kd r) w) : RUN (.call ⟨.builtin .min, args, ts⟩) ty [.int kd x, .int kd' y] w K X := by
  refine .ok _ w ?_ (k _ rfl)
  simp only [semOf, Builtin.min_, List.foldlM, Sem.run_bind, min2_run, Result.andThen_ok, Sem.run_pure]
theorem RUN.max2 (k : ∀ r, r = max x y → K (.int kd r) w) : RUN (.call ⟨.builtin .max, args, ts⟩) ty [.int kd x, .int kd' y] w K X := by
  refine .ok _ w ?_ (k _ rfl)
  simp only [semOf, Builtin.max_, List.foldlM, Sem.run_bind, max2_run, Result.andThen_ok, Sem.run_pure]
theorem RUN.min3 {kd'' : IntKind} (k : ∀ r, r = min (min x y) z → K (.int kd r) w) : RUN (.call ⟨.builtin .min, args, ts⟩) ty [.int kd x, .int kd' y, .int kd'' z] w K X := by
  refine .ok _ w ?_ (k _ rfl)
  simp only [semOf, Builtin.min_, List.foldlM, Sem.run_bind, min2_run, Result.andThen_ok, Sem.run_pure]
theorem RUN.min4 {kd'' kd3 : IntKind} {u : Int} (k : ∀ r, r = min (min (min x y) z) u → K (.int kd r) w) : RUN (.call ⟨.builtin .min, args, ts⟩) ty [.int kd x, .int kd' y, .int kd'' z, .int kd3 u] w K X := by
  refine .ok _ w ?_ (k _ rfl)
  simp only [semOf, Builtin.min_, List.foldlM, Sem.run_bind, min2_run, Result.andThen_ok, Sem.run_pure]
theorem RUNQ.min2 {S : World → Prop} {K : Value → Prop} (k : ∀ r, r = min x y → K (.int kd r)) : RUNQ S (.call ⟨.builtin .min, args, ts⟩) ty [.int kd x, .int kd' y] K := by
  refine .mk _ (fun w hs => ?_) (k _ rfl)
  simp only [semOf, Builtin.min_, List.foldlM, Sem.run_bind, min2_run, Result.andThen_ok, Sem.run_pure]
theorem RUNQ.max2 {S : World → Prop} {K : Value → Prop} (k : ∀ r, r = max x y → K (.int kd r)) : RUNQ S (.call ⟨.builtin .max, args, ts⟩) ty [.int kd x, .int kd' y] K := by
  refine .mk _ (fun w hs => ?_) (k _ rfl)
  simp only [semOf, Builtin.max_, List.foldlM, Sem.run_bind, max2_run, Result.andThen_ok, Sem.run_pure]
theorem RUNQ.min3 {S : World → Prop} {K : Value → Prop} {kd'' : IntKind} (k : ∀ r, r = min (min x y) z → K (.int kd r)) : RUNQ S (.call ⟨.builtin .min, args, ts⟩) ty [.int kd x, .int kd' y, .int kd'' z] K := by
  refine .mk _ (fun w hs => ?_) (k _ rfl)
  simp only [semOf, Builtin.min_, List.foldlM, Sem.run_bind, min2_run, Result.andThen_ok, Sem.run_pure]
theorem RUNQ.min4 {S : World → Prop} {K : Value → Prop} {kd'' kd3 : IntKind} {u : Int} (k : ∀ r, r = min (min (min x y) z) u → K (.int kd r)) : RUNQ S (.call ⟨.builtin .min, args, ts⟩) ty [.int kd x, .int kd' y, .int kd'' z, .int kd3 u] K := by
  refine .mk _ (fun w hs => ?_) (k _ rfl)
  simp only [semOf, Builtin.min_, List.foldlM, Sem.run_bind, min2_run, Result.andThen_ok, Sem.run_pure]
theorem CVI.same {K : Int → Prop} (h : kd.wrap x = x) (k : ∀ r, r = x → K r) : CVI kd x K := .mk x h.symm (k _ rfl)
theorem CVI.i64 {K : Int → Prop} (h : -9223372036854775808 ≤ x ∧ x ≤ 9223372036854775807) (k : ∀ r, r = x → K r) : CVI .i64 x K := .mk x (IntWalk.i64_in _ h).symm (k _ rfl)

/-! Whole numbers of 64 bits without a sign -/
theorem u64_wrap {x : Int} (h : 0 ≤ x ∧ x ≤ 18446744073709551615) : IntKind.wrap .u64 x = x := by
  simp [IntKind.wrap, IntKind.bits, IntKind.signed]
  omega
theorem CVI.u64 {K : Int → Prop} (h : 0 ≤ x ∧ x ≤ 18446744073709551615) (k : ∀ r, r = x → K r) : CVI .u64 x K := .mk x (u64_wrap h).symm (k _ rfl)
theorem ART.uadd {K : Int → Prop} (h : 0 ≤ x + y ∧ x + y ≤ 18446744073709551615) (k : ∀ r, r = x + y → K r) : ART .add .u64 x y K :=
  .mk _ (by simp only [artV, u64_wrap h]) (k _ rfl)
theorem ART.usub {K : Int → Prop} (h : 0 ≤ x - y ∧ x - y ≤ 18446744073709551615) (k : ∀ r, r = x - y → K r) : ART .sub .u64 x y K :=
  .mk _ (by simp only [artV, u64_wrap h]) (k _ rfl)
theorem ART.umul {K : Int → Prop} (h : 0 ≤ x * y ∧ x * y ≤ 18446744073709551615) (k : ∀ r, r = x * y → K r) : ART .mul .u64 x y K :=
  .mk _ (by simp only [artV, u64_wrap h]) (k _ rfl)
theorem ART.uquo {K : Int → Prop} (ha : 0 ≤ x) (hb : 0 < y) (hm : x ≤ 18446744073709551615) (k : ∀ r, r = x / y → K r) : ART .quo .u64 x y K := by
  refine .mk (x / y) ?_ (k _ rfl)
  have h2 : 0 ≤ x / y := Int.ediv_nonneg ha (by omega)
  have h3 : x / y ≤ x := Int.ediv_le_self y ha
  simp only [artV]
  rw [if_neg (by omega), Int.tdiv_eq_ediv_of_nonneg ha, u64_wrap ⟨by omega, by omega⟩]
theorem ART.urem {K : Int → Prop} (ha : 0 ≤ x) (hb : 0 < y) (hm : x ≤ 18446744073709551615) (k : ∀ r, r = x % y → K r) : ART .rem .u64 x y K := by
  refine .mk (x % y) ?_ (k _ rfl)
  simp only [artV]
  rw [if_neg (by omega), Int.tmod_eq_emod_of_nonneg ha]
theorem ART.ushr {K : Int → Prop} (n : Nat) (hn : n ≤ 64) (hy : y = n) (h : 0 ≤ x ∧ x ≤ 18446744073709551615) (k : ∀ r, r = x / (2 ^ n : Nat) → K r) : ART .shr .u64 x y K := by
  refine .mk (x / (2 ^ n : Nat)) ?_ (k _ rfl)
  subst hy
  simp only [artV]
  rw [if_neg (by omega)]
  have e : min (n : Int).toNat (IntKind.bits .u64) = n := by
    have : IntKind.bits .u64 = 64 := rfl
    rw [this]; omega
  rw [e]
  have : x.fdiv (2 ^ n) = x / (2 ^ n : Nat) := by
    rw [Int.fdiv_eq_ediv_of_nonneg _ (Int.le_of_lt (Int.pow_pos (by decide)))]; simp
  rw [this]
theorem ART.ushl {K : Int → Prop} (n : Nat) (hn : n ≤ 64) (hy : y = n) (h : 0 ≤ x * (2 ^ n : Nat) ∧ x * (2 ^ n : Nat) ≤ 18446744073709551615) (k : ∀ r, r = x * (2 ^ n : Nat) → K r) : ART .shl .u64 x y K := by
  refine .mk (x * (2 ^ n : Nat)) ?_ (k _ rfl)
  subst hy
  simp only [artV]
  rw [if_neg (by omega)]
  have e : min (n : Int).toNat (IntKind.bits .u64) = n := by
    have : IntKind.bits .u64 = 64 := rfl
    rw [this]; omega
  rw [e]
  have : x * 2 ^ n = x * (2 ^ n : Nat) := by simp
  rw [this, u64_wrap h]
theorem bv_mask {x : Int} {n : Nat} (hn : n ≤ 64) (h : 0 ≤ x ∧ x ≤ 18446744073709551615) : (((BitVec.ofInt 64 x &&& BitVec.ofInt 64 (((2 ^ n - 1 : Nat)) : Int)).toNat : Nat) : Int) = x % (2 ^ n : Nat) := by
  obtain ⟨m, rfl⟩ := Int.eq_ofNat_of_zero_le h.1
  have h2 : m < 2 ^ 64 := by omega
  have h1 : 2 ^ n - 1 < 2 ^ 64 := by
    have : 2 ^ n ≤ 2 ^ 64 := Nat.pow_le_pow_right (by decide) hn
    have := Nat.two_pow_pos n
    omega
  rw [BitVec.toNat_and, BitVec.ofInt_natCast, BitVec.ofInt_natCast, BitVec.toNat_ofNat, BitVec.toNat_ofNat, Nat.mod_eq_of_lt h2, Nat.mod_eq_of_lt h1, Nat.and_two_pow_sub_one_eq_mod]
  rfl
theorem ART.mask {K : Int → Prop} (n : Nat) (hn : n ≤ 64) (hy : y = ((2 ^ n - 1 : Nat) : Int)) (h : 0 ≤ x ∧ x ≤ 18446744073709551615) (k : ∀ r, r = x % (2 ^ n : Nat) → K r) : ART .and .u64 x y K := by
  refine .mk (x % (2 ^ n : Nat)) ?_ (k _ rfl)
  subst hy
  simp only [artV]
  have e : IntKind.bits .u64 = 64 := rfl
  have h1 : 0 ≤ x % (2 ^ n : Nat) := Int.emod_nonneg _ (by have := Nat.two_pow_pos n; omega)
  have h2 : x % (2 ^ n : Nat) ≤ x := by
    have := Int.mul_ediv_add_emod x (2 ^ n : Nat)
    have h3 : 0 ≤ x / (2 ^ n : Nat) := Int.ediv_nonneg h.1 (by omega)
    have h4 : 0 ≤ ((2 ^ n : Nat) : Int) * (x / (2 ^ n : Nat)) := Int.mul_nonneg (by omega) h3
    omega
  rw [e, bv_mask hn h, u64_wrap ⟨h1, by omega⟩]
theorem ART.or0 {K : Int → Prop} (h : 0 ≤ y ∧ y ≤ 18446744073709551615) (k : K y) : ART .or .u64 0 y K := by
  refine .mk y ?_ k
  simp only [artV]
  have e : IntKind.bits .u64 = 64 := rfl
  obtain ⟨m, rfl⟩ := Int.eq_ofNat_of_zero_le h.1
  have h2 : m < 2 ^ 64 := by omega
  have e0 : BitVec.ofInt 64 0 = 0#64 := by decide
  rw [e, e0, BitVec.ofInt_natCast, BitVec.zero_or, BitVec.toNat_ofNat, Nat.mod_eq_of_lt h2]
  rw [u64_wrap h]

/-! Floats -/
/-- What a comparison of two floats tells. -/
def fcm (op : BinOp) (x y : Nat) : Bool :=
  let c := FloatKind.f64.format.order x y
  match op with
  | .eql => c == some .eq
  | .neq => c != some .eq
  | .lss => c == some .lt
  | .leq => c == some .lt || c == some .eq
  | .gtr => c == some .gt
  | .geq => c == some .gt || c == some .eq
  | _ => false
def isCmp : BinOp → Bool | .eql | .neq | .lss | .leq | .gtr | .geq => true | _ => false
theorem fcmp_run {op : BinOp} {t : TypeId} {a b : Operand} {p q : Nat} (h : isCmp op = true) (w : World) : ((do eqGuard op t a b (.float .f64 p) (.float .f64 q); binOp op t (.float .f64 p) (.float .f64 q)) : Sem Value).run PP w = .ok (.bool (fcm op p q)) w := by
  cases op <;> simp only [isCmp, Bool.false_eq_true] at h <;> simp [eqGuard, binOp, Op.floatCmp, fcm]
theorem RUN.fcmp {op : BinOp} {t g : TypeId} {a b : Operand} {p q : Nat} (h : isCmp op = true) (k : K (.bool (fcm op p q)) w) : RUN (.binOp op t a b g) ty [.float .f64 p, .float .f64 q] w K X :=
  .ok _ w (fcmp_run h w) k
theorem choose_run (q : Question) (w : World) : ∃ n w', (choose q).run PP w = .ok n w' ∧ Ext w w' := by
  rw [run_choose]
  by_cases h : q.forced
  · rw [if_pos h]; exact ⟨_, _, rfl, Ext.refl w⟩
  · rw [if_neg h]; exact ⟨_, _, rfl, ⟨Nat.le_refl _, fun _ _ _ => rfl, rfl, rfl⟩⟩
theorem RUN.fmul {t g : TypeId} {a b : Operand} {p q r : Nat} (h : FloatKind.f64.format.mul p q = some r) (k : K (.float .f64 r) w) : RUN (.binOp .mul t a b g) ty [.float .f64 p, .float .f64 q] w K X := by
  refine .ok _ w ?_ k
  simp only [semOf, eqGuard]
  simp [binOp, Op.floatArith, h]
theorem RUN.fmin {p q : Nat} (k : ∀ r w', Ext w w' → K (.float .f64 r) w') : RUN (.call ⟨.builtin .min, args, ts⟩) ty [.float .f64 p, .float .f64 q] w K X := by
  have : ∃ r w', (Builtin.min2 (.float .f64 p) (.float .f64 q)).run PP w = .ok (.float .f64 r) w' ∧ Ext w w' := by
    simp only [Builtin.min2]
    split
    · obtain ⟨n, w', h, hx⟩ := choose_run (.nanMinMax .f64 false p q) w
      exact ⟨n, w', by simp only [Sem.run_bind, h, Result.andThen_ok, Sem.run_pure], hx⟩
    · exact ⟨_, w, rfl, Ext.refl w⟩
    · exact ⟨_, w, rfl, Ext.refl w⟩
    · exact ⟨_, w, rfl, Ext.refl w⟩
  obtain ⟨r, w', h, hx⟩ := this
  refine .ok _ w' ?_ (k r w' hx)
  simp only [semOf, Builtin.min_, List.foldlM, Sem.run_bind, h, Result.andThen_ok, Sem.run_pure]
theorem under22 : PP.underlying 22 = some (.float .f64) := by kernel_rfl
theorem conv_any {d : TypeId} {p : Nat} (hd : inTau d = true) (hk : (tau d).k = .int kd) (w : World) : ∃ r w', (convert 22 d (.float .f64 p)).run PP w = .ok (.int kd r) w' ∧ Ext w w' := by
  have h1 := kint hd hk
  unfold convert
  simp only [Sem.run_bind, run_underlying' under22, run_underlying' h1, Result.andThen_ok, Conv.floatToInt]
  obtain ⟨n, w', h, hx⟩ := choose_run (.floatToInt .f64 p kd) w
  split
  · split
    · exact ⟨_, w, rfl, Ext.refl w⟩
    · exact ⟨kd.wrap n, w', by simp only [Sem.run_bind, h, Result.andThen_ok, Sem.run_pure], hx⟩
  · exact ⟨kd.wrap n, w', by simp only [Sem.run_bind, h, Result.andThen_ok, Sem.run_pure], hx⟩
theorem conv_in {d : TypeId} {p : Nat} {n : Int} (hd : inTau d = true) (hk : (tau d).k = .int kd) (h : floatToIntVal .f64 p kd = some n) (w : World) : (convert 22 d (.float .f64 p)).run PP w = .ok (.int kd n) w :=
  run_convert_float_int w 22 d .f64 kd p n (by rw [under22]; rfl) (kint hd hk) h
theorem RUN.fint {d : TypeId} {x : Operand} {p : Nat} (hd : inTau d = true) (hk : (tau d).k = .int kd) (k : ∀ r w', Ext w w' → K (.int kd r) w') : RUN (.convert 22 d x) ty [.float .f64 p] w K X := by
  obtain ⟨r, w', h, hx⟩ := conv_any (p := p) hd hk w
  exact .ok _ w' h (k r w' hx)
theorem RUN.finti {d : TypeId} {x : Operand} {p : Nat} {n : Int} (hd : inTau d = true) (hk : (tau d).k = .int kd) (h : floatToIntVal .f64 p kd = some n) (k : K (.int kd n) w) : RUN (.convert 22 d x) ty [.float .f64 p] w K X :=
  .ok _ w (conv_in hd hk h w) k

/-! Functions without a body -/
theorem ext_run {f : Nat} {fn : Func} {e : Array Value → Sem Value} (hf : PP.funcs[f]? = some fn) (h1 : (fn.name == "runtime.NumGoroutine") = false) (h2 : fn.body = none) (h3 : Extern.findNext fn = none) (h4 : Extern.find fn = some e)
    {args : Array Value} {w w' : World} {v : Value} (h : (e args).run PP w = .ok v w') : (callFunc f args).run PP w = .ok (.value v) w' := by
  unfold callFunc
  simp only [Sem.run_bind, run_program, Result.andThen_ok, hf, h1, h2, h3, h4]
  simp [h]
theorem f192 : PP.funcs[192]? = some Tryz.f192 := by kernel_rfl
theorem f338 : PP.funcs[338]? = some Tryz.f338 := by kernel_rfl
theorem x192n : Extern.findNext Tryz.f192 = none := by kernel_rfl
theorem x338n : Extern.findNext Tryz.f338 = none := by kernel_rfl
theorem x192 : Extern.find Tryz.f192 = some (Extern.MathFloor.toIntegral "math.archFloor" .down) := by kernel_rfl
theorem toInt_eq (p : Nat) : Extern.MathFloor.toIntegral "math.archFloor" .down #[.float .f64 p] =
    (match FloatKind.f64.decode p with
    | .nan s t =>
      if FloatKind.f64.format.quiet t = t then pure (.float .f64 p) else do
      let kept ← choose (.extern "math.Floor,Ceil,Trunc,RoundToEven.signallingNaN kept" 2)
      pure (.float .f64 (if kept == 1 then p else FloatKind.f64.encode (.nan s (FloatKind.f64.format.quiet t))))
    | d => pure (.float .f64 (FloatKind.f64.encode (d.integral .down)))) := rfl
/-- The greatest whole number that is not above. -/
def flo (p : Nat) : Nat := FloatKind.f64.encode ((FloatKind.f64.decode p).integral .down)
theorem floor_in {p : Nat} (h : (FloatKind.f64.decode p).isNaN = false) (w : World) : (callFunc 192 #[.float .f64 p]).run PP w = .ok (.value (.float .f64 (flo p))) w := by
  refine ext_run f192 rfl rfl x192n x192 ?_
  rw [toInt_eq]
  split
  · rename_i hd; rw [hd] at h; cases h
  · rename_i d hd; rfl
theorem floor_any (p : Nat) (w : World) : ∃ r w', (callFunc 192 #[.float .f64 p]).run PP w = .ok (.value (.float .f64 r)) w' ∧ Ext w w' := by
  cases h : (FloatKind.f64.decode p).isNaN with
  | false => exact ⟨_, w, floor_in h w, Ext.refl w⟩
  | true =>
    have : ∃ r w', (Extern.MathFloor.toIntegral "math.archFloor" .down #[.float .f64 p]).run PP w = .ok (.float .f64 r) w' ∧ Ext w w' := by
      rw [toInt_eq]
      split
      · split
        · exact ⟨_, w, rfl, Ext.refl w⟩
        · rename_i s t _ _
          obtain ⟨n, w', h, hx⟩ := choose_run (.extern "math.Floor,Ceil,Trunc,RoundToEven.signallingNaN kept" 2) w
          exact ⟨if n == 1 then p else FloatKind.f64.encode (.nan s (FloatKind.f64.format.quiet t)), w', by simp only [Sem.run_bind, h, Result.andThen_ok, Sem.run_pure], hx⟩
      · exact ⟨_, w, rfl, Ext.refl w⟩
    obtain ⟨r, w', h, hx⟩ := this
    exact ⟨r, w', ext_run f192 rfl rfl x192n x192 h, hx⟩
end
end Go.E
end
