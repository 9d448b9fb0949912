/- The model's step, plainly; what four programs keep. -/
import Derived.Test.YtnbekdcepnfpaaaGreatDoorG04
set_option linter.unusedVariables false
set_option linter.unusedSimpArgs false
namespace Go.E

/-- An instruction: what it does, its three parts. -/
structure In where
  op : Nat
  a : Nat
  b : Nat
  c : Nat
/-- A goroutine. -/
structure CG where
  st : Int
  f : Nat
  pc : Nat
  count : Nat
  stack : List Int
/-- All that instructions turn. -/
structure Core where
  gs : List CG
  globals : List Int
  waits : List (List Int)
  tim : List (Int × Nat)
  clock : Int
  mem : Int → Option (List Int)
/-- What was done. -/
structure Cmt where
  g : Nat
  f : Nat
  pc : Nat
  op : Nat
  value : Int
  fault : Bool

def instAt (fs : List (List In)) (f pc : Nat) : In := ((fs.getD f [])[pc]?).getD ⟨0, 0, 0, 0⟩
def tadd : List (Int × Nat) → Int → Nat → List (Int × Nat)
  | [], t, g => [(t, g)]
  | x :: l, t, g => if t < x.1 then (t, g) :: x :: l else x :: tadd l t g
def stk0 (v : Int) : List Int := v :: List.replicate 15 0
def CG.mv (x : CG) : CG := { x with pc := x.pc + 1 }
def cOk (C : Core) (g : Nat) (x : CG) (i : In) (y : CG) (v : Int) : Core × Cmt := ({ C with gs := C.gs.set g y }, ⟨g, x.f, x.pc, i.op, v, false⟩)
def cFt (C : Core) (g : Nat) (x : CG) (i : In) : Core × Cmt := ({ C with gs := C.gs.set g { x.mv with st := 5 } }, ⟨g, x.f, x.pc, i.op, 0, true⟩)
/-- An instruction (but for an allocation). -/
def cex (C : Core) (g : Nat) (x : CG) (i : In) : Core × Cmt :=
  match i.op with
  | 0 => cOk C g x i { x.mv with st := 5 } 0
  | 2 => match (C.mem (x.stack.getD i.b 0)).bind (·[i.c]?) with
    | some v => cOk C g x i { x.mv with stack := x.stack.set i.a v } v
    | none => cFt C g x i
  | 3 => match C.mem (x.stack.getD i.a 0) with
    | some l => if i.b < l.length then ({ C with gs := C.gs.set g x.mv, mem := fun k => if k = x.stack.getD i.a 0 then some (l.set i.b (x.stack.getD i.c 0)) else C.mem k }, ⟨g, x.f, x.pc, i.op, 0, false⟩) else cFt C g x i
    | none => cFt C g x i
  | 4 => cOk C g x i { x.mv with stack := x.stack.set i.a (x.stack.getD i.b 0) } 0
  | 5 => cOk C g x i { x.mv with stack := x.stack.set i.a 0 } 0
  | 6 => cOk C g x i { x.mv with stack := x.stack.set i.a (C.globals.getD i.b 0) } 0
  | 7 => ({ C with gs := C.gs.set g x.mv, globals := C.globals.set i.a (x.stack.getD i.b 0) }, ⟨g, x.f, x.pc, i.op, 0, false⟩)
  | 8 => if C.gs.length < 1024 then ({ C with gs := C.gs.set g x.mv ++ [⟨1, i.a, 0, 0, stk0 (x.stack.getD i.b 0)⟩] }, ⟨g, x.f, x.pc, i.op, C.gs.length, false⟩) else cFt C g x i
  | 9 => cOk C g x i x.mv 0
  | 10 => ({ C with gs := C.gs.set g { x.mv with st := 3 }, tim := tadd C.tim (C.clock + (256 * i.b + i.c + 1)) g }, ⟨g, x.f, x.pc, i.op, 0, false⟩)
  | 11 => ({ C with gs := C.gs.set g { x.mv with st := 3 }, waits := C.waits.set i.a (C.waits.getD i.a [] ++ [(g : Int)]) }, ⟨g, x.f, x.pc, i.op, 0, false⟩)
  | 12 => match C.waits.getD i.a [] with
    | [] => cOk C g x i x.mv (-1)
    | k :: r => ({ C with gs := (C.gs.set g x.mv).modify k.toNat (fun y => { y with st := 1 }), waits := C.waits.set i.a r }, ⟨g, x.f, x.pc, i.op, k, false⟩)
  | 13 => cOk C g x i x.mv (if x.stack.getD i.a 0 = x.stack.getD i.b 0 then 1 else 0)
  | 14 => cOk C g x i { x.mv with pc := i.a } 0
  | 15 => cOk C g x i (if x.stack.getD i.a 0 = x.stack.getD i.b 0 then { x.mv with pc := i.c } else x.mv) 0
  | 16 => cOk C g x i { x.mv with count := 256 * i.a + i.b } 0
  | 17 => cOk C g x i (if 0 < x.count then { x.mv with count := x.count - 1, pc := i.a } else x.mv) 0
  | _ => cOk C g x i x.mv 0
/-- A step of the model that is no allocation. -/
def cdo (fs : List (List In)) (C : Core) (g : Nat) : Core × Cmt := let x := C.gs.getD g ⟨0, 0, 0, 0, []⟩; cex C g x (instAt fs x.f x.pc)

/-- What is always so in what a step makes: goroutines stay where they are. -/
theorem cex_gs_len (C : Core) (g : Nat) (x : CG) (i : In) : C.gs.length ≤ (cex C g x i).1.gs.length := by
  unfold cex
  split <;> (try split) <;> (try split) <;> simp [cOk, cFt]
end Go.E
/- Floats: the share is always the same number for the same share. -/
set_option linter.unusedVariables false
set_option linter.unusedSimpArgs false
set_option maxRecDepth 10000
noncomputable section
namespace Go.E
open Go Go.Proofs Ieee

theorem log2_lt (n : Nat) : n < 2 ^ (n.log2 + 1) := Nat.lt_log2_self
theorem cut_le (mag d1 d2 : Nat) (h : (d2 = 0 ∧ mag <<< d1 < 2 ^ 53) ∨ (d1 = 0 ∧ mag.log2 ≤ d2 + 52)) : Toward.even.cut false (mag <<< d1) d2 ≤ 2 ^ 53 := by
  unfold Toward.cut
  rcases h with ⟨rfl, h⟩ | ⟨rfl, h⟩
  · simp
    have h2 := Nat.mod_one (mag <<< d1)
    simp [h2]
    omega
  · rw [Nat.shiftLeft_zero]
    have hlow : mag / (1 <<< min d2 (mag.log2 + 2)) < 2 ^ 53 := by
      rw [Nat.one_shiftLeft]
      refine Nat.div_lt_of_lt_mul ?_
      rw [← Nat.pow_add]
      refine Nat.lt_of_lt_of_le (log2_lt mag) (Nat.pow_le_pow_right (by omega) ?_)
      omega
    have hb : ∀ b : Bool, b.toNat ≤ 1 := by decide
    exact Nat.le_trans (Nat.add_le_add_left (hb _) _) hlow
theorem word_pos (r : Nat) : double.word false r = r := by unfold Format.word; rw [if_neg (by decide)]
theorem nearest_eq {mag : Nat} {place : Int} (h : mag ≠ 0) : double.nearest false mag place =
    min ((max (place + mag.log2 - 52) (-1074) - -1074).toNat * 4503599627370496 + Toward.even.cut false (mag <<< (place - max (place + mag.log2 - 52) (-1074)).toNat) (max (place + mag.log2 - 52) (-1074) - place).toNat) 9218868437227405312 := by
  unfold Format.nearest
  rw [if_neg h]
  have hlp : double.leastPlace = -1074 := by decide
  have hbin : double.binade = 4503599627370496 := by decide
  have hinf : double.infRung = 9218868437227405312 := by decide
  have hfb : (double.fractionBits : Int) = 52 := rfl
  simp only [hlp, hfb, hbin, hinf]
  rw [word_pos]
theorem read_eq {r : Nat} (h : r < 9218868437227405312) : double.read r =
    if r < 4503599627370496 then .number false r (-1074) else .number false (4503599627370496 + r % 4503599627370496) (-1074 + (r / 4503599627370496 - 1 : Nat)) := by
  unfold Format.read
  have hlp : double.leastPlace = -1074 := by decide
  have hbin : double.binade = 4503599627370496 := by decide
  have hinf : double.infRung = 9218868437227405312 := by decide
  have hsw : double.signWeight = 9223372036854775808 := by decide
  simp only [hlp, hbin, hinf, hsw]
  have e1 : r / 9223372036854775808 % 2 = 0 := by rw [Nat.div_eq_of_lt (by omega)]
  have e2 : r % 9223372036854775808 = r := Nat.mod_eq_of_lt (by omega)
  rw [e2, e1]
  have e3 : ((0 : Nat) == 1) = false := rfl
  rw [e3]
  by_cases c1 : r < 4503599627370496
  · rw [if_pos c1, if_pos c1]
  · rw [if_neg c1, if_neg c1, if_pos h]
theorem near_read {mag : Nat} {place : Int} {L : Int} (h : mag = 0 ∨ place + mag.log2 ≤ L) (hL0 : -1000 ≤ L) (hL : L ≤ 500) :
    ∃ m' e', double.read (double.nearest false mag place) = .number false m' e' ∧ m' < 2 ^ 53 ∧ e' ≤ L - 51 := by
  by_cases h0 : mag = 0
  · refine ⟨0, -1074, ?_, by decide, by omega⟩
    subst h0
    unfold Format.nearest
    rw [if_pos rfl, word_pos, read_eq (by decide), if_pos (by decide)]
  have h := h.resolve_left h0
  rw [nearest_eq h0]
  generalize hlast : max (place + mag.log2 - 52) (-1074) = last
  have hk : Toward.even.cut false (mag <<< (place - last).toNat) (last - place).toNat ≤ 9007199254740992 := by
    refine cut_le _ _ _ ?_
    by_cases hc : last ≤ place
    · refine .inl ⟨by omega, ?_⟩
      rw [Nat.shiftLeft_eq]
      have h1 : (place - last).toNat ≤ 52 - mag.log2 := by omega
      have h2 : mag.log2 ≤ 52 := by omega
      calc mag * 2 ^ (place - last).toNat < 2 ^ (mag.log2 + 1) * 2 ^ (place - last).toNat := Nat.mul_lt_mul_of_pos_right (log2_lt mag) (Nat.two_pow_pos _)
        _ ≤ 2 ^ 53 := by rw [← Nat.pow_add]; exact Nat.pow_le_pow_right (by omega) (by omega)
    · refine .inr ⟨by omega, by omega⟩
  generalize Toward.even.cut false (mag <<< (place - last).toNat) (last - place).toNat = kept at hk
  have hl16 : (last - -1074).toNat ≤ 1600 := by omega
  generalize hs : (last - -1074).toNat = s at hl16
  have hmin : min (s * 4503599627370496 + kept) 9218868437227405312 = s * 4503599627370496 + kept := Nat.min_eq_left (by omega)
  rw [hmin]
  generalize hr : s * 4503599627370496 + kept = r
  rw [read_eq (by omega)]
  by_cases c1 : r < 4503599627370496
  · rw [if_pos c1]
    exact ⟨r, -1074, rfl, by omega, by omega⟩
  · rw [if_neg c1]
    refine ⟨_, _, rfl, ?_, ?_⟩
    · have := Nat.mod_lt r (by decide : 4503599627370496 > 0)
      omega
    · have h1 : r / 4503599627370496 ≤ s + 2 := by omega
      omega

/-- What is below one and not below a 64th is a number. -/
theorem small_num {p : Nat} (h1 : fcm .lss p 4580160821035794432 = false) (h2 : fcm .geq p 4607182418800017408 = false) (h3 : fcm .neq p p = false) :
    ∃ m e, double.read p = .number false m e ∧ (m = 0 ∨ e + m.log2 < 0) := by
  have hq : double.read 4580160821035794432 = .number false (2 ^ 52) (-58) := by decide
  have ho : double.read 4607182418800017408 = .number false (2 ^ 52) (-52) := by decide
  simp only [fcm, Format.order, FloatKind.format] at h1 h2 h3
  rw [hq] at h1
  rw [ho] at h2
  cases hd : double.read p with
  | nan s t => rw [hd] at h3; simp [Datum.order] at h3
  | infinity s =>
    rw [hd] at h1 h2
    cases s <;> simp [Datum.order] at h1 h2
  | number s m e =>
    rw [hd] at h1 h2
    refine ⟨m, e, ?_, ?_⟩
    · cases s with
      | false => rfl
      | true =>
        exfalso
        have hp : 0 < (2 ^ 52) <<< (-58 - min e (-58)).toNat := by rw [Nat.shiftLeft_eq]; exact Nat.mul_pos (by decide) (Nat.two_pow_pos _)
        have ho2 : Datum.order (.number true m e) (.number false (2 ^ 52) (-58)) = some (compare (-((m <<< (e - min e (-58)).toNat : Nat) : Int)) (((2 ^ 52) <<< (-58 - min e (-58)).toNat : Nat) : Int)) := rfl
        rw [ho2] at h1
        generalize (2 ^ 52) <<< (-58 - min e (-58)).toNat = u at hp h1
        generalize m <<< (e - min e (-58)).toNat = t at h1
        have : compare (-(t : Int)) (u : Int) = .lt := by rw [Int.compare_eq_lt]; omega
        rw [this] at h1
        cases h1
    · by_cases h0 : m = 0
      · exact .inl h0
      refine .inr ?_
      cases s with
      | true =>
        exfalso
        have hp : 0 < (2 ^ 52) <<< (-58 - min e (-58)).toNat := by rw [Nat.shiftLeft_eq]; exact Nat.mul_pos (by decide) (Nat.two_pow_pos _)
        have ho2 : Datum.order (.number true m e) (.number false (2 ^ 52) (-58)) = some (compare (-((m <<< (e - min e (-58)).toNat : Nat) : Int)) (((2 ^ 52) <<< (-58 - min e (-58)).toNat : Nat) : Int)) := rfl
        rw [ho2] at h1
        generalize (2 ^ 52) <<< (-58 - min e (-58)).toNat = u at hp h1
        generalize m <<< (e - min e (-58)).toNat = t at h1
        have : compare (-(t : Int)) (u : Int) = .lt := by rw [Int.compare_eq_lt]; omega
        rw [this] at h1
        cases h1
      | false =>
        have ho2 : Datum.order (.number false m e) (.number false (2 ^ 52) (-52)) = some (compare (((m <<< (e - min e (-52)).toNat : Nat)) : Int) (((2 ^ 52) <<< (-52 - min e (-52)).toNat : Nat) : Int)) := rfl
        rw [ho2] at h2
        have hc : compare (((m <<< (e - min e (-52)).toNat : Nat)) : Int) (((2 ^ 52) <<< (-52 - min e (-52)).toNat : Nat) : Int) = .lt := by
          generalize (2 ^ 52) <<< (-52 - min e (-52)).toNat = u at h2
          generalize m <<< (e - min e (-52)).toNat = t at h2
          cases hcc : compare (t : Int) (u : Int) with
          | lt => rfl
          | eq => rw [hcc] at h2; cases h2
          | gt => rw [hcc] at h2; cases h2
        rw [Int.compare_eq_lt] at hc
        have hc : m <<< (e - min e (-52)).toNat < (2 ^ 52) <<< (-52 - min e (-52)).toNat := by omega
        rw [Nat.shiftLeft_eq, Nat.shiftLeft_eq] at hc
        have hl : 2 ^ m.log2 ≤ m := Nat.log2_self_le h0
        have hlt : 2 ^ (m.log2 + (e - min e (-52)).toNat) < 2 ^ (52 + (-52 - min e (-52)).toNat) := by
          rw [Nat.pow_add, Nat.pow_add]
          exact Nat.lt_of_le_of_lt (Nat.mul_le_mul_right _ hl) hc
        have := (Nat.pow_lt_pow_iff_right (by decide : 1 < 2)).1 hlt
        omega

theorem mul_num {p q m n : Nat} {i j : Int} (hp : double.read p = .number false m i) (hq : double.read q = .number false n j) : FloatKind.f64.format.mul p q = some (double.nearest false (m * n) (i + j)) := by
  show Format.mul double p q = _
  simp only [Format.mul, hp, hq, Datum.product, Option.map_some, Format.write]
  rfl

theorem cut_down (n d : Nat) : Toward.down.cut false n d ≤ n := by
  unfold Toward.cut
  simp
  exact Nat.div_le_self _ _
theorem cut_zero (n d : Nat) : Toward.zero.cut false n d ≤ n := by
  unfold Toward.cut
  simp
  exact Nat.div_le_self _ _
theorem dec_eq (x : Nat) : FloatKind.f64.decode x = double.read x := rfl
theorem enc_num (s : Bool) (m : Nat) (e : Int) : FloatKind.f64.encode (.number s m e) = double.nearest s m e := rfl
theorem down_num (m : Nat) (e : Int) : Datum.integral .down (.number false m e) = .number false (Toward.down.cut false (m <<< e.toNat) (-e).toNat) 0 := rfl
theorem r20 : double.read 4697254411347427328 = .number false (2 ^ 52) (-32) := by decide
theorem share_in1 {m : Nat} {e : Int} (hl : m = 0 ∨ e + m.log2 < 0) : m * 2 ^ 52 = 0 ∨ (e + -32) + (m * 2 ^ 52).log2 ≤ 20 := by
    rcases hl with h0 | hl
    · exact .inl (by rw [h0, Nat.zero_mul])
    · by_cases h0 : m = 0
      · exact .inl (by rw [h0, Nat.zero_mul])
      refine .inr ?_
      have hne : m * 2 ^ 52 ≠ 0 := Nat.mul_ne_zero h0 (by decide)
      have : (m * 2 ^ 52).log2 < m.log2 + 53 := by
        rw [Nat.log2_lt hne]
        have := log2_lt m
        rw [show m.log2 + 53 = (m.log2 + 1) + 52 by omega, Nat.pow_add]
        exact Nat.mul_lt_mul_of_pos_right this (by decide)
      omega
theorem share_in2 {k : Nat} (hk : k < 2 ^ 53) : k = 0 ∨ (0 : Int) + k.log2 ≤ 52 := by
    by_cases h0 : k = 0
    · exact .inl h0
    · refine .inr ?_
      have : k.log2 < 53 := (Nat.log2_lt h0).2 hk
      omega
theorem share_in3 {m2 : Nat} {e2 : Int} (b2 : m2 < 2 ^ 53) (b2' : e2 ≤ 1) : m2 <<< e2.toNat ≤ 36028797018963968 := by
    rw [Nat.shiftLeft_eq]
    have : e2.toNat ≤ 1 := by omega
    calc m2 * 2 ^ e2.toNat ≤ 2 ^ 53 * 2 ^ e2.toNat := Nat.mul_le_mul_right _ (Nat.le_of_lt b2)
      _ ≤ 2 ^ 53 * 2 ^ 1 := Nat.mul_le_mul_left _ (Nat.pow_le_pow_right (by decide) this)
      _ ≤ 36028797018963968 := by decide
theorem share_in4 {p : Nat} {m2 : Nat} {e2 : Int} (hd2 : FloatKind.f64.decode p = .number false m2 e2) (h : m2 <<< e2.toNat ≤ 36028797018963968) : ∃ n, floatToIntVal .f64 p .i64 = some n ∧ 0 ≤ n := by
  refine ⟨((Toward.zero.cut false (m2 <<< e2.toNat) (-e2).toNat : Nat) : Int), ?_, by omega⟩
  unfold floatToIntVal
  rw [hd2]
  have ht : Datum.toInt .zero (.number false m2 e2) = some ((Toward.zero.cut false (m2 <<< e2.toNat) (-e2).toNat : Nat) : Int) := by
    simp [Datum.toInt, Datum.integral, signed]
  rw [ht]
  have hz := cut_zero (m2 <<< e2.toNat) (-e2).toNat
  have hmin : IntKind.min .i64 = -9223372036854775808 := by decide
  have hmax : IntKind.max .i64 = 9223372036854775807 := by decide
  simp only [hmin, hmax]
  rw [if_pos (by omega)]
/-- The share, in 2^20ths. -/
theorem share_in {p : Nat} (h1 : fcm .lss p 4580160821035794432 = false) (h2 : fcm .geq p 4607182418800017408 = false) (h3 : fcm .neq p p = false) :
    ∃ q n, FloatKind.f64.format.mul p 4697254411347427328 = some q ∧ (FloatKind.f64.decode q).isNaN = false ∧ floatToIntVal .f64 (flo q) .i64 = some n ∧ 0 ≤ n := by
  obtain ⟨m, e, hm, hl⟩ := small_num h1 h2 h3
  have hq := mul_num hm r20
  obtain ⟨m1, e1, r1, b1, b1'⟩ := near_read (share_in1 hl) (by omega) (by omega)
  generalize double.nearest false (m * 2 ^ 52) (e + -32) = q at r1 hq
  have hd1 : FloatKind.f64.decode q = .number false m1 e1 := by rw [dec_eq]; exact r1
  have hk : Toward.down.cut false (m1 <<< e1.toNat) (-e1).toNat < 2 ^ 53 := by
    have : e1.toNat = 0 := by omega
    rw [this, Nat.shiftLeft_zero]
    exact Nat.lt_of_le_of_lt (cut_down _ _) b1
  have hflo : flo q = double.nearest false (Toward.down.cut false (m1 <<< e1.toNat) (-e1).toNat) 0 := by
    unfold flo
    rw [hd1, down_num, enc_num]
  generalize Toward.down.cut false (m1 <<< e1.toNat) (-e1).toNat = k at hk hflo
  obtain ⟨m2, e2, r2, b2, b2'⟩ := near_read (share_in2 hk) (by omega) (by omega)
  have hd2 : FloatKind.f64.decode (flo q) = .number false m2 e2 := by rw [hflo, dec_eq]; exact r2
  obtain ⟨n, hn⟩ := share_in4 hd2 (share_in3 b2 b2')
  exact ⟨q, n, hq, by rw [hd1]; rfl, hn⟩
end Go.E
end
