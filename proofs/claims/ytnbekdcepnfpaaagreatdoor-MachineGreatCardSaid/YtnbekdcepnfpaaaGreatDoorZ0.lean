/- A program that may be, told once for both. -/
import Derived.Test.YtnbekdcepnfpaaaGreatDoorL10
set_option linter.unusedVariables false
set_option linter.unusedSimpArgs false
set_option maxRecDepth 10000
noncomputable section
namespace Go.E
open Go Go.Proofs

def okB (g n s : Nat) (i : In) : Prop :=
  match i.op with
  | 0 => i.a = 0 ∧ i.b = 0 ∧ i.c = 0
  | 1 => i.a < 16 ∧ i.b < 256 ∧ i.c = 0
  | 2 => i.a < 16 ∧ i.b < 16 ∧ i.c < 256
  | 3 => i.a < 16 ∧ i.b < 256 ∧ i.c < 16
  | 4 => i.a < 16 ∧ i.b < 16 ∧ i.c = 0
  | 5 => i.a < 16 ∧ i.b = 0 ∧ i.c = 0
  | 6 => i.a < 16 ∧ i.b < g ∧ i.c = 0
  | 7 => i.a < g ∧ i.b < 16 ∧ i.c = 0
  | 8 => i.a < n ∧ i.b < 16 ∧ i.c = 0
  | 9 => i.a = 0 ∧ i.b = 0 ∧ i.c = 0
  | 10 => i.a = 0 ∧ i.b < 256 ∧ i.c < 256
  | 11 => i.a < 32 ∧ i.b = 0 ∧ i.c = 0
  | 12 => i.a < 32 ∧ i.b = 0 ∧ i.c = 0
  | 13 => i.a < 16 ∧ i.b < 16 ∧ i.c = 0
  | 14 => i.a < s ∧ i.b = 0 ∧ i.c = 0
  | 15 => i.a < 16 ∧ i.b < 16 ∧ i.c < s
  | 16 => i.a < 256 ∧ i.b < 256 ∧ i.c = 0
  | 17 => i.a < s ∧ i.b = 0 ∧ i.c = 0
  | _ => False
theorem okB_op {g n s : Nat} {i : In} (h : okB g n s i) : i.op < 18 := by
  rcases Nat.lt_or_ge i.op 18 with h1 | h1
  · exact h1
  · exfalso
    obtain ⟨op, a, b, c⟩ := i
    obtain ⟨m, rfl⟩ : ∃ m, op = m + 18 := ⟨op - 18, by simp only at h1; omega⟩
    exact h
theorem op_cases {k : Nat} (h : k < 18) : k = 0 ∨ k = 1 ∨ k = 2 ∨ k = 3 ∨ k = 4 ∨ k = 5 ∨ k = 6 ∨ k = 7 ∨ k = 8 ∨ k = 9 ∨ k = 10 ∨ k = 11 ∨ k = 12 ∨ k = 13 ∨ k = 14 ∨ k = 15 ∨ k = 16 ∨ k = 17 := by omega
theorem okI_of {g n s : Nat} {i : In} (hg : g ≤ 32) (hn : n ≤ 16) (hs : s ≤ 64) (h : okB g n s i) : okI g n s i ∧ okR g n s i ∧ byI i := by
  have ho := okB_op h
  obtain ⟨op, a, b, c⟩ := i
  simp only at ho
  rcases op_cases ho with rfl | rfl | rfl | rfl | rfl | rfl | rfl | rfl | rfl | rfl | rfl | rfl | rfl | rfl | rfl | rfl | rfl | rfl
  · simp only [okB] at h
    refine ⟨⟨by show 0 < 18; decide, decide_eq_true ?_, decide_eq_true ?_, decide_eq_true ?_⟩, ⟨by show 0 < 18; decide, fun j m hj hm => ?_⟩, by show 0 < 256; decide, by show a < 256; omega, by show b < 256; omega, by show c < 256; omega⟩
    · show 0 ≤ (a : Int) ∧ (a : Int) < mostZ g n s (ptZ 0 0)
      have : mostZ g n s (ptZ 0 0) = 1 := rfl
      omega
    · show 0 ≤ (b : Int) ∧ (b : Int) < mostZ g n s (ptZ 0 1)
      have : mostZ g n s (ptZ 0 1) = 1 := rfl
      omega
    · show 0 ≤ (c : Int) ∧ (c : Int) < mostZ g n s (ptZ 0 2)
      have : mostZ g n s (ptZ 0 2) = 1 := rfl
      omega
    · have hj3 : j = 0 ∨ j = 1 ∨ j = 2 := by omega
      have hk : kTr 0 = [0, 0, 0] := rfl
      rw [hk] at hm
      rcases hj3 with rfl | rfl | rfl <;> simp only [List.getElem?_cons_zero, List.getElem?_cons_succ, Option.some.injEq] at hm
      · have hm' : m = 0 := by omega
        subst hm'
        show (a : Int) < 1
        omega
      · have hm' : m = 0 := by omega
        subst hm'
        show (b : Int) < 1
        omega
      · have hm' : m = 0 := by omega
        subst hm'
        show (c : Int) < 1
        omega
  · simp only [okB] at h
    refine ⟨⟨by show 1 < 18; decide, decide_eq_true ?_, decide_eq_true ?_, decide_eq_true ?_⟩, ⟨by show 1 < 18; decide, fun j m hj hm => ?_⟩, by show 1 < 256; decide, by show a < 256; omega, by show b < 256; omega, by show c < 256; omega⟩
    · show 0 ≤ (a : Int) ∧ (a : Int) < mostZ g n s (ptZ 1 0)
      have : mostZ g n s (ptZ 1 0) = 16 := rfl
      omega
    · show 0 ≤ (b : Int) ∧ (b : Int) < mostZ g n s (ptZ 1 1)
      have : mostZ g n s (ptZ 1 1) = 256 := rfl
      omega
    · show 0 ≤ (c : Int) ∧ (c : Int) < mostZ g n s (ptZ 1 2)
      have : mostZ g n s (ptZ 1 2) = 1 := rfl
      omega
    · have hj3 : j = 0 ∨ j = 1 ∨ j = 2 := by omega
      have hk : kTr 1 = [1, 6, 0] := rfl
      rw [hk] at hm
      rcases hj3 with rfl | rfl | rfl <;> simp only [List.getElem?_cons_zero, List.getElem?_cons_succ, Option.some.injEq] at hm
      · have hm' : m = 1 := by omega
        subst hm'
        show (a : Int) < 16
        omega
      · have hm' : m = 6 := by omega
        subst hm'
        show (b : Int) < 256
        omega
      · have hm' : m = 0 := by omega
        subst hm'
        show (c : Int) < 1
        omega
  · simp only [okB] at h
    refine ⟨⟨by show 2 < 18; decide, decide_eq_true ?_, decide_eq_true ?_, decide_eq_true ?_⟩, ⟨by show 2 < 18; decide, fun j m hj hm => ?_⟩, by show 2 < 256; decide, by show a < 256; omega, by show b < 256; omega, by show c < 256; omega⟩
    · show 0 ≤ (a : Int) ∧ (a : Int) < mostZ g n s (ptZ 2 0)
      have : mostZ g n s (ptZ 2 0) = 16 := rfl
      omega
    · show 0 ≤ (b : Int) ∧ (b : Int) < mostZ g n s (ptZ 2 1)
      have : mostZ g n s (ptZ 2 1) = 16 := rfl
      omega
    · show 0 ≤ (c : Int) ∧ (c : Int) < mostZ g n s (ptZ 2 2)
      have : mostZ g n s (ptZ 2 2) = 256 := rfl
      omega
    · have hj3 : j = 0 ∨ j = 1 ∨ j = 2 := by omega
      have hk : kTr 2 = [1, 1, 6] := rfl
      rw [hk] at hm
      rcases hj3 with rfl | rfl | rfl <;> simp only [List.getElem?_cons_zero, List.getElem?_cons_succ, Option.some.injEq] at hm
      · have hm' : m = 1 := by omega
        subst hm'
        show (a : Int) < 16
        omega
      · have hm' : m = 1 := by omega
        subst hm'
        show (b : Int) < 16
        omega
      · have hm' : m = 6 := by omega
        subst hm'
        show (c : Int) < 256
        omega
  · simp only [okB] at h
    refine ⟨⟨by show 3 < 18; decide, decide_eq_true ?_, decide_eq_true ?_, decide_eq_true ?_⟩, ⟨by show 3 < 18; decide, fun j m hj hm => ?_⟩, by show 3 < 256; decide, by show a < 256; omega, by show b < 256; omega, by show c < 256; omega⟩
    · show 0 ≤ (a : Int) ∧ (a : Int) < mostZ g n s (ptZ 3 0)
      have : mostZ g n s (ptZ 3 0) = 16 := rfl
      omega
    · show 0 ≤ (b : Int) ∧ (b : Int) < mostZ g n s (ptZ 3 1)
      have : mostZ g n s (ptZ 3 1) = 256 := rfl
      omega
    · show 0 ≤ (c : Int) ∧ (c : Int) < mostZ g n s (ptZ 3 2)
      have : mostZ g n s (ptZ 3 2) = 16 := rfl
      omega
    · have hj3 : j = 0 ∨ j = 1 ∨ j = 2 := by omega
      have hk : kTr 3 = [1, 6, 1] := rfl
      rw [hk] at hm
      rcases hj3 with rfl | rfl | rfl <;> simp only [List.getElem?_cons_zero, List.getElem?_cons_succ, Option.some.injEq] at hm
      · have hm' : m = 1 := by omega
        subst hm'
        show (a : Int) < 16
        omega
      · have hm' : m = 6 := by omega
        subst hm'
        show (b : Int) < 256
        omega
      · have hm' : m = 1 := by omega
        subst hm'
        show (c : Int) < 16
        omega
  · simp only [okB] at h
    refine ⟨⟨by show 4 < 18; decide, decide_eq_true ?_, decide_eq_true ?_, decide_eq_true ?_⟩, ⟨by show 4 < 18; decide, fun j m hj hm => ?_⟩, by show 4 < 256; decide, by show a < 256; omega, by show b < 256; omega, by show c < 256; omega⟩
    · show 0 ≤ (a : Int) ∧ (a : Int) < mostZ g n s (ptZ 4 0)
      have : mostZ g n s (ptZ 4 0) = 16 := rfl
      omega
    · show 0 ≤ (b : Int) ∧ (b : Int) < mostZ g n s (ptZ 4 1)
      have : mostZ g n s (ptZ 4 1) = 16 := rfl
      omega
    · show 0 ≤ (c : Int) ∧ (c : Int) < mostZ g n s (ptZ 4 2)
      have : mostZ g n s (ptZ 4 2) = 1 := rfl
      omega
    · have hj3 : j = 0 ∨ j = 1 ∨ j = 2 := by omega
      have hk : kTr 4 = [1, 1, 0] := rfl
      rw [hk] at hm
      rcases hj3 with rfl | rfl | rfl <;> simp only [List.getElem?_cons_zero, List.getElem?_cons_succ, Option.some.injEq] at hm
      · have hm' : m = 1 := by omega
        subst hm'
        show (a : Int) < 16
        omega
      · have hm' : m = 1 := by omega
        subst hm'
        show (b : Int) < 16
        omega
      · have hm' : m = 0 := by omega
        subst hm'
        show (c : Int) < 1
        omega
  · simp only [okB] at h
    refine ⟨⟨by show 5 < 18; decide, decide_eq_true ?_, decide_eq_true ?_, decide_eq_true ?_⟩, ⟨by show 5 < 18; decide, fun j m hj hm => ?_⟩, by show 5 < 256; decide, by show a < 256; omega, by show b < 256; omega, by show c < 256; omega⟩
    · show 0 ≤ (a : Int) ∧ (a : Int) < mostZ g n s (ptZ 5 0)
      have : mostZ g n s (ptZ 5 0) = 16 := rfl
      omega
    · show 0 ≤ (b : Int) ∧ (b : Int) < mostZ g n s (ptZ 5 1)
      have : mostZ g n s (ptZ 5 1) = 1 := rfl
      omega
    · show 0 ≤ (c : Int) ∧ (c : Int) < mostZ g n s (ptZ 5 2)
      have : mostZ g n s (ptZ 5 2) = 1 := rfl
      omega
    · have hj3 : j = 0 ∨ j = 1 ∨ j = 2 := by omega
      have hk : kTr 5 = [1, 0, 0] := rfl
      rw [hk] at hm
      rcases hj3 with rfl | rfl | rfl <;> simp only [List.getElem?_cons_zero, List.getElem?_cons_succ, Option.some.injEq] at hm
      · have hm' : m = 1 := by omega
        subst hm'
        show (a : Int) < 16
        omega
      · have hm' : m = 0 := by omega
        subst hm'
        show (b : Int) < 1
        omega
      · have hm' : m = 0 := by omega
        subst hm'
        show (c : Int) < 1
        omega
  · simp only [okB] at h
    refine ⟨⟨by show 6 < 18; decide, decide_eq_true ?_, decide_eq_true ?_, decide_eq_true ?_⟩, ⟨by show 6 < 18; decide, fun j m hj hm => ?_⟩, by show 6 < 256; decide, by show a < 256; omega, by show b < 256; omega, by show c < 256; omega⟩
    · show 0 ≤ (a : Int) ∧ (a : Int) < mostZ g n s (ptZ 6 0)
      have : mostZ g n s (ptZ 6 0) = 16 := rfl
      omega
    · show 0 ≤ (b : Int) ∧ (b : Int) < mostZ g n s (ptZ 6 1)
      have : mostZ g n s (ptZ 6 1) = g := rfl
      omega
    · show 0 ≤ (c : Int) ∧ (c : Int) < mostZ g n s (ptZ 6 2)
      have : mostZ g n s (ptZ 6 2) = 1 := rfl
      omega
    · have hj3 : j = 0 ∨ j = 1 ∨ j = 2 := by omega
      have hk : kTr 6 = [1, 2, 0] := rfl
      rw [hk] at hm
      rcases hj3 with rfl | rfl | rfl <;> simp only [List.getElem?_cons_zero, List.getElem?_cons_succ, Option.some.injEq] at hm
      · have hm' : m = 1 := by omega
        subst hm'
        show (a : Int) < 16
        omega
      · have hm' : m = 2 := by omega
        subst hm'
        show (b : Int) < g
        omega
      · have hm' : m = 0 := by omega
        subst hm'
        show (c : Int) < 1
        omega
  · simp only [okB] at h
    refine ⟨⟨by show 7 < 18; decide, decide_eq_true ?_, decide_eq_true ?_, decide_eq_true ?_⟩, ⟨by show 7 < 18; decide, fun j m hj hm => ?_⟩, by show 7 < 256; decide, by show a < 256; omega, by show b < 256; omega, by show c < 256; omega⟩
    · show 0 ≤ (a : Int) ∧ (a : Int) < mostZ g n s (ptZ 7 0)
      have : mostZ g n s (ptZ 7 0) = g := rfl
      omega
    · show 0 ≤ (b : Int) ∧ (b : Int) < mostZ g n s (ptZ 7 1)
      have : mostZ g n s (ptZ 7 1) = 16 := rfl
      omega
    · show 0 ≤ (c : Int) ∧ (c : Int) < mostZ g n s (ptZ 7 2)
      have : mostZ g n s (ptZ 7 2) = 1 := rfl
      omega
    · have hj3 : j = 0 ∨ j = 1 ∨ j = 2 := by omega
      have hk : kTr 7 = [2, 1, 0] := rfl
      rw [hk] at hm
      rcases hj3 with rfl | rfl | rfl <;> simp only [List.getElem?_cons_zero, List.getElem?_cons_succ, Option.some.injEq] at hm
      · have hm' : m = 2 := by omega
        subst hm'
        show (a : Int) < g
        omega
      · have hm' : m = 1 := by omega
        subst hm'
        show (b : Int) < 16
        omega
      · have hm' : m = 0 := by omega
        subst hm'
        show (c : Int) < 1
        omega
  · simp only [okB] at h
    refine ⟨⟨by show 8 < 18; decide, decide_eq_true ?_, decide_eq_true ?_, decide_eq_true ?_⟩, ⟨by show 8 < 18; decide, fun j m hj hm => ?_⟩, by show 8 < 256; decide, by show a < 256; omega, by show b < 256; omega, by show c < 256; omega⟩
    · show 0 ≤ (a : Int) ∧ (a : Int) < mostZ g n s (ptZ 8 0)
      have : mostZ g n s (ptZ 8 0) = n := rfl
      omega
    · show 0 ≤ (b : Int) ∧ (b : Int) < mostZ g n s (ptZ 8 1)
      have : mostZ g n s (ptZ 8 1) = 16 := rfl
      omega
    · show 0 ≤ (c : Int) ∧ (c : Int) < mostZ g n s (ptZ 8 2)
      have : mostZ g n s (ptZ 8 2) = 1 := rfl
      omega
    · have hj3 : j = 0 ∨ j = 1 ∨ j = 2 := by omega
      have hk : kTr 8 = [3, 1, 0] := rfl
      rw [hk] at hm
      rcases hj3 with rfl | rfl | rfl <;> simp only [List.getElem?_cons_zero, List.getElem?_cons_succ, Option.some.injEq] at hm
      · have hm' : m = 3 := by omega
        subst hm'
        show (a : Int) < n
        omega
      · have hm' : m = 1 := by omega
        subst hm'
        show (b : Int) < 16
        omega
      · have hm' : m = 0 := by omega
        subst hm'
        show (c : Int) < 1
        omega
  · simp only [okB] at h
    refine ⟨⟨by show 9 < 18; decide, decide_eq_true ?_, decide_eq_true ?_, decide_eq_true ?_⟩, ⟨by show 9 < 18; decide, fun j m hj hm => ?_⟩, by show 9 < 256; decide, by show a < 256; omega, by show b < 256; omega, by show c < 256; omega⟩
    · show 0 ≤ (a : Int) ∧ (a : Int) < mostZ g n s (ptZ 9 0)
      have : mostZ g n s (ptZ 9 0) = 1 := rfl
      omega
    · show 0 ≤ (b : Int) ∧ (b : Int) < mostZ g n s (ptZ 9 1)
      have : mostZ g n s (ptZ 9 1) = 1 := rfl
      omega
    · show 0 ≤ (c : Int) ∧ (c : Int) < mostZ g n s (ptZ 9 2)
      have : mostZ g n s (ptZ 9 2) = 1 := rfl
      omega
    · have hj3 : j = 0 ∨ j = 1 ∨ j = 2 := by omega
      have hk : kTr 9 = [0, 0, 0] := rfl
      rw [hk] at hm
      rcases hj3 with rfl | rfl | rfl <;> simp only [List.getElem?_cons_zero, List.getElem?_cons_succ, Option.some.injEq] at hm
      · have hm' : m = 0 := by omega
        subst hm'
        show (a : Int) < 1
        omega
      · have hm' : m = 0 := by omega
        subst hm'
        show (b : Int) < 1
        omega
      · have hm' : m = 0 := by omega
        subst hm'
        show (c : Int) < 1
        omega
  · simp only [okB] at h
    refine ⟨⟨by show 10 < 18; decide, decide_eq_true ?_, decide_eq_true ?_, decide_eq_true ?_⟩, ⟨by show 10 < 18; decide, fun j m hj hm => ?_⟩, by show 10 < 256; decide, by show a < 256; omega, by show b < 256; omega, by show c < 256; omega⟩
    · show 0 ≤ (a : Int) ∧ (a : Int) < mostZ g n s (ptZ 10 0)
      have : mostZ g n s (ptZ 10 0) = 1 := rfl
      omega
    · show 0 ≤ (b : Int) ∧ (b : Int) < mostZ g n s (ptZ 10 1)
      have : mostZ g n s (ptZ 10 1) = 256 := rfl
      omega
    · show 0 ≤ (c : Int) ∧ (c : Int) < mostZ g n s (ptZ 10 2)
      have : mostZ g n s (ptZ 10 2) = 256 := rfl
      omega
    · have hj3 : j = 0 ∨ j = 1 ∨ j = 2 := by omega
      have hk : kTr 10 = [0, 6, 6] := rfl
      rw [hk] at hm
      rcases hj3 with rfl | rfl | rfl <;> simp only [List.getElem?_cons_zero, List.getElem?_cons_succ, Option.some.injEq] at hm
      · have hm' : m = 0 := by omega
        subst hm'
        show (a : Int) < 1
        omega
      · have hm' : m = 6 := by omega
        subst hm'
        show (b : Int) < 256
        omega
      · have hm' : m = 6 := by omega
        subst hm'
        show (c : Int) < 256
        omega
  · simp only [okB] at h
    refine ⟨⟨by show 11 < 18; decide, decide_eq_true ?_, decide_eq_true ?_, decide_eq_true ?_⟩, ⟨by show 11 < 18; decide, fun j m hj hm => ?_⟩, by show 11 < 256; decide, by show a < 256; omega, by show b < 256; omega, by show c < 256; omega⟩
    · show 0 ≤ (a : Int) ∧ (a : Int) < mostZ g n s (ptZ 11 0)
      have : mostZ g n s (ptZ 11 0) = 32 := rfl
      omega
    · show 0 ≤ (b : Int) ∧ (b : Int) < mostZ g n s (ptZ 11 1)
      have : mostZ g n s (ptZ 11 1) = 1 := rfl
      omega
    · show 0 ≤ (c : Int) ∧ (c : Int) < mostZ g n s (ptZ 11 2)
      have : mostZ g n s (ptZ 11 2) = 1 := rfl
      omega
    · have hj3 : j = 0 ∨ j = 1 ∨ j = 2 := by omega
      have hk : kTr 11 = [4, 0, 0] := rfl
      rw [hk] at hm
      rcases hj3 with rfl | rfl | rfl <;> simp only [List.getElem?_cons_zero, List.getElem?_cons_succ, Option.some.injEq] at hm
      · have hm' : m = 4 := by omega
        subst hm'
        show (a : Int) < 32
        omega
      · have hm' : m = 0 := by omega
        subst hm'
        show (b : Int) < 1
        omega
      · have hm' : m = 0 := by omega
        subst hm'
        show (c : Int) < 1
        omega
  · simp only [okB] at h
    refine ⟨⟨by show 12 < 18; decide, decide_eq_true ?_, decide_eq_true ?_, decide_eq_true ?_⟩, ⟨by show 12 < 18; decide, fun j m hj hm => ?_⟩, by show 12 < 256; decide, by show a < 256; omega, by show b < 256; omega, by show c < 256; omega⟩
    · show 0 ≤ (a : Int) ∧ (a : Int) < mostZ g n s (ptZ 12 0)
      have : mostZ g n s (ptZ 12 0) = 32 := rfl
      omega
    · show 0 ≤ (b : Int) ∧ (b : Int) < mostZ g n s (ptZ 12 1)
      have : mostZ g n s (ptZ 12 1) = 1 := rfl
      omega
    · show 0 ≤ (c : Int) ∧ (c : Int) < mostZ g n s (ptZ 12 2)
      have : mostZ g n s (ptZ 12 2) = 1 := rfl
      omega
    · have hj3 : j = 0 ∨ j = 1 ∨ j = 2 := by omega
      have hk : kTr 12 = [4, 0, 0] := rfl
      rw [hk] at hm
      rcases hj3 with rfl | rfl | rfl <;> simp only [List.getElem?_cons_zero, List.getElem?_cons_succ, Option.some.injEq] at hm
      · have hm' : m = 4 := by omega
        subst hm'
        show (a : Int) < 32
        omega
      · have hm' : m = 0 := by omega
        subst hm'
        show (b : Int) < 1
        omega
      · have hm' : m = 0 := by omega
        subst hm'
        show (c : Int) < 1
        omega
  · simp only [okB] at h
    refine ⟨⟨by show 13 < 18; decide, decide_eq_true ?_, decide_eq_true ?_, decide_eq_true ?_⟩, ⟨by show 13 < 18; decide, fun j m hj hm => ?_⟩, by show 13 < 256; decide, by show a < 256; omega, by show b < 256; omega, by show c < 256; omega⟩
    · show 0 ≤ (a : Int) ∧ (a : Int) < mostZ g n s (ptZ 13 0)
      have : mostZ g n s (ptZ 13 0) = 16 := rfl
      omega
    · show 0 ≤ (b : Int) ∧ (b : Int) < mostZ g n s (ptZ 13 1)
      have : mostZ g n s (ptZ 13 1) = 16 := rfl
      omega
    · show 0 ≤ (c : Int) ∧ (c : Int) < mostZ g n s (ptZ 13 2)
      have : mostZ g n s (ptZ 13 2) = 1 := rfl
      omega
    · have hj3 : j = 0 ∨ j = 1 ∨ j = 2 := by omega
      have hk : kTr 13 = [1, 1, 0] := rfl
      rw [hk] at hm
      rcases hj3 with rfl | rfl | rfl <;> simp only [List.getElem?_cons_zero, List.getElem?_cons_succ, Option.some.injEq] at hm
      · have hm' : m = 1 := by omega
        subst hm'
        show (a : Int) < 16
        omega
      · have hm' : m = 1 := by omega
        subst hm'
        show (b : Int) < 16
        omega
      · have hm' : m = 0 := by omega
        subst hm'
        show (c : Int) < 1
        omega
  · simp only [okB] at h
    refine ⟨⟨by show 14 < 18; decide, decide_eq_true ?_, decide_eq_true ?_, decide_eq_true ?_⟩, ⟨by show 14 < 18; decide, fun j m hj hm => ?_⟩, by show 14 < 256; decide, by show a < 256; omega, by show b < 256; omega, by show c < 256; omega⟩
    · show 0 ≤ (a : Int) ∧ (a : Int) < mostZ g n s (ptZ 14 0)
      have : mostZ g n s (ptZ 14 0) = s := rfl
      omega
    · show 0 ≤ (b : Int) ∧ (b : Int) < mostZ g n s (ptZ 14 1)
      have : mostZ g n s (ptZ 14 1) = 1 := rfl
      omega
    · show 0 ≤ (c : Int) ∧ (c : Int) < mostZ g n s (ptZ 14 2)
      have : mostZ g n s (ptZ 14 2) = 1 := rfl
      omega
    · have hj3 : j = 0 ∨ j = 1 ∨ j = 2 := by omega
      have hk : kTr 14 = [5, 0, 0] := rfl
      rw [hk] at hm
      rcases hj3 with rfl | rfl | rfl <;> simp only [List.getElem?_cons_zero, List.getElem?_cons_succ, Option.some.injEq] at hm
      · have hm' : m = 5 := by omega
        subst hm'
        show (a : Int) < s
        omega
      · have hm' : m = 0 := by omega
        subst hm'
        show (b : Int) < 1
        omega
      · have hm' : m = 0 := by omega
        subst hm'
        show (c : Int) < 1
        omega
  · simp only [okB] at h
    refine ⟨⟨by show 15 < 18; decide, decide_eq_true ?_, decide_eq_true ?_, decide_eq_true ?_⟩, ⟨by show 15 < 18; decide, fun j m hj hm => ?_⟩, by show 15 < 256; decide, by show a < 256; omega, by show b < 256; omega, by show c < 256; omega⟩
    · show 0 ≤ (a : Int) ∧ (a : Int) < mostZ g n s (ptZ 15 0)
      have : mostZ g n s (ptZ 15 0) = 16 := rfl
      omega
    · show 0 ≤ (b : Int) ∧ (b : Int) < mostZ g n s (ptZ 15 1)
      have : mostZ g n s (ptZ 15 1) = 16 := rfl
      omega
    · show 0 ≤ (c : Int) ∧ (c : Int) < mostZ g n s (ptZ 15 2)
      have : mostZ g n s (ptZ 15 2) = s := rfl
      omega
    · have hj3 : j = 0 ∨ j = 1 ∨ j = 2 := by omega
      have hk : kTr 15 = [1, 1, 5] := rfl
      rw [hk] at hm
      rcases hj3 with rfl | rfl | rfl <;> simp only [List.getElem?_cons_zero, List.getElem?_cons_succ, Option.some.injEq] at hm
      · have hm' : m = 1 := by omega
        subst hm'
        show (a : Int) < 16
        omega
      · have hm' : m = 1 := by omega
        subst hm'
        show (b : Int) < 16
        omega
      · have hm' : m = 5 := by omega
        subst hm'
        show (c : Int) < s
        omega
  · simp only [okB] at h
    refine ⟨⟨by show 16 < 18; decide, decide_eq_true ?_, decide_eq_true ?_, decide_eq_true ?_⟩, ⟨by show 16 < 18; decide, fun j m hj hm => ?_⟩, by show 16 < 256; decide, by show a < 256; omega, by show b < 256; omega, by show c < 256; omega⟩
    · show 0 ≤ (a : Int) ∧ (a : Int) < mostZ g n s (ptZ 16 0)
      have : mostZ g n s (ptZ 16 0) = 256 := rfl
      omega
    · show 0 ≤ (b : Int) ∧ (b : Int) < mostZ g n s (ptZ 16 1)
      have : mostZ g n s (ptZ 16 1) = 256 := rfl
      omega
    · show 0 ≤ (c : Int) ∧ (c : Int) < mostZ g n s (ptZ 16 2)
      have : mostZ g n s (ptZ 16 2) = 1 := rfl
      omega
    · have hj3 : j = 0 ∨ j = 1 ∨ j = 2 := by omega
      have hk : kTr 16 = [6, 6, 0] := rfl
      rw [hk] at hm
      rcases hj3 with rfl | rfl | rfl <;> simp only [List.getElem?_cons_zero, List.getElem?_cons_succ, Option.some.injEq] at hm
      · have hm' : m = 6 := by omega
        subst hm'
        show (a : Int) < 256
        omega
      · have hm' : m = 6 := by omega
        subst hm'
        show (b : Int) < 256
        omega
      · have hm' : m = 0 := by omega
        subst hm'
        show (c : Int) < 1
        omega
  · simp only [okB] at h
    refine ⟨⟨by show 17 < 18; decide, decide_eq_true ?_, decide_eq_true ?_, decide_eq_true ?_⟩, ⟨by show 17 < 18; decide, fun j m hj hm => ?_⟩, by show 17 < 256; decide, by show a < 256; omega, by show b < 256; omega, by show c < 256; omega⟩
    · show 0 ≤ (a : Int) ∧ (a : Int) < mostZ g n s (ptZ 17 0)
      have : mostZ g n s (ptZ 17 0) = s := rfl
      omega
    · show 0 ≤ (b : Int) ∧ (b : Int) < mostZ g n s (ptZ 17 1)
      have : mostZ g n s (ptZ 17 1) = 1 := rfl
      omega
    · show 0 ≤ (c : Int) ∧ (c : Int) < mostZ g n s (ptZ 17 2)
      have : mostZ g n s (ptZ 17 2) = 1 := rfl
      omega
    · have hj3 : j = 0 ∨ j = 1 ∨ j = 2 := by omega
      have hk : kTr 17 = [5, 0, 0] := rfl
      rw [hk] at hm
      rcases hj3 with rfl | rfl | rfl <;> simp only [List.getElem?_cons_zero, List.getElem?_cons_succ, Option.some.injEq] at hm
      · have hm' : m = 5 := by omega
        subst hm'
        show (a : Int) < s
        omega
      · have hm' : m = 0 := by omega
        subst hm'
        show (b : Int) < 1
        omega
      · have hm' : m = 0 := by omega
        subst hm'
        show (c : Int) < 1
        omega
theorem plain_of {g n s : Nat} {i : In} (hs : s ≤ 64) (h : okB g n s i) (hp : i.op = 0 ∨ i.op = 2 ∨ i.op = 4 ∨ i.op = 5 ∨ i.op = 8 ∨ i.op = 9 ∨ i.op = 11 ∨ i.op = 12 ∨ i.op = 14 ∨ i.op = 16 ∨ i.op = 17) : plainI n i := by
  obtain ⟨op, a, b, c⟩ := i
  simp only at hp
  rcases hp with rfl | rfl | rfl | rfl | rfl | rfl | rfl | rfl | rfl | rfl | rfl
  · simp only [okB] at h
    exact (.inl rfl)
  · simp only [okB] at h
    exact (.inr (.inr (.inr (.inl ⟨rfl, h.1, h.2.1, h.2.2⟩))))
  · simp only [okB] at h
    exact (.inr (.inr (.inr (.inr (.inl ⟨rfl, h.1, h.2.1⟩)))))
  · simp only [okB] at h
    exact (.inr (.inr (.inr (.inr (.inr (.inl ⟨rfl, h.1⟩))))))
  · simp only [okB] at h
    exact (.inr (.inr (.inr (.inr (.inr (.inr (.inl ⟨rfl, h.1, h.2.1⟩)))))))
  · simp only [okB] at h
    exact (.inr (.inl rfl))
  · simp only [okB] at h
    exact (.inr (.inr (.inr (.inr (.inr (.inr (.inr (.inl ⟨rfl, h.1⟩))))))))
  · simp only [okB] at h
    exact (.inr (.inr (.inr (.inr (.inr (.inr (.inr (.inr (.inl ⟨rfl, h.1⟩)))))))))
  · simp only [okB] at h
    exact (.inr (.inr (.inr (.inr (.inr (.inr (.inr (.inr (.inr (.inl ⟨rfl, Nat.lt_of_lt_of_le h.1 (by omega)⟩))))))))))
  · simp only [okB] at h
    exact (.inr (.inr (.inr (.inr (.inr (.inr (.inr (.inr (.inr (.inr ⟨rfl, h.1, h.2.1⟩))))))))))
  · simp only [okB] at h
    exact (.inr (.inr (.inl ⟨rfl, Nat.lt_of_lt_of_le h.1 (by omega)⟩)))
theorem good_of {g : Nat} {fs : List (List In)} (hg : g ≤ 32) (h1 : 1 ≤ fs.length ∧ fs.length ≤ 16) (h : ∀ l ∈ fs, 1 ≤ l.length ∧ l.length ≤ 64 ∧ ∀ i ∈ l, okB g fs.length l.length i) : GoodP g fs :=
  ⟨⟨hg, h1.1, h1.2, fun l hl => ⟨(h l hl).1, (h l hl).2.1, fun i hi => (okI_of hg h1.2 (h l hl).2.1 ((h l hl).2.2 i hi)).1⟩⟩,
   ⟨hg, h1.1, h1.2, fun l hl => ⟨(h l hl).1, (h l hl).2.1, fun i hi => (okI_of hg h1.2 (h l hl).2.1 ((h l hl).2.2 i hi)).2.1⟩⟩,
   fun l hl i hi => (okI_of hg h1.2 (h l hl).2.1 ((h l hl).2.2 i hi)).2.2⟩
/-- A program's functions in memory. -/
theorem MSl.lit {w : World} {S : Nat → Prop} {b n : Nat} {l : List In} (h : At w b (B (l.map inC).flatten 33)) (hS : S b) (hn : n = l.length) : MSl w S 33 4 (some ⟨b, 0, none⟩) n (l.map inC) := by
  subst hn
  have hk : ∀ r ∈ l.map inC, r.length = 4 := by
    intro r hr
    obtain ⟨i, _, rfl⟩ := List.mem_map.1 hr
    rfl
  refine ⟨hk, by rw [flat_len hk], .inr ⟨b, 0, l.length, [], [], by simp, hS, by simpa using h, rfl, by simp, by simp⟩⟩
theorem FnAt.two {w : World} {S : Nat → Prop} {bF c0 c1 : Nat} {a0 a1 : Option Addr} {l0 l1 : List In} (h0 : MSl w S 33 4 a0 c0 (l0.map inC)) (h1 : MSl w S 33 4 a1 c1 (l1.map inC)) (hF : At w bF (B [.slice a0 l0.length c0, .slice a1 l1.length c1] 34)) (hS : S bF) :
    FnAt w S (some ⟨bF, 0, none⟩) 2 [l0, l1] := by
  refine FnAt.fm.mono (FnAt.of (A := S) (B := S) (ls := [⟨a0, c0⟩, ⟨a1, c1⟩]) ⟨rfl, fun i x l hx hl => ?_⟩ ⟨rfl, .inr ⟨bF, 0, 2, [], [], rfl, hS, by simpa [fnV] using hF, rfl, Nat.le_refl _, by simp [fnV]⟩⟩) fun y _ hy => hy.elim id id
  rcases i with _ | _ | i
  · simp at hx hl; subst hx hl; exact h0
  · simp at hx hl; subst hx hl; exact h1
  · simp at hx
theorem FnAt.one {w : World} {S : Nat → Prop} {bF c0 : Nat} {a0 : Option Addr} {l0 : List In} (h0 : MSl w S 33 4 a0 c0 (l0.map inC)) (hF : At w bF (B [.slice a0 l0.length c0] 34)) (hS : S bF) :
    FnAt w S (some ⟨bF, 0, none⟩) 1 [l0] := by
  refine FnAt.fm.mono (FnAt.of (A := S) (B := S) (ls := [⟨a0, c0⟩]) ⟨rfl, fun i x l hx hl => ?_⟩ ⟨rfl, .inr ⟨bF, 0, 1, [], [], rfl, hS, by simpa [fnV] using hF, rfl, Nat.le_refl _, by simp [fnV]⟩⟩) fun y _ hy => hy.elim id id
  rcases i with _ | i
  · simp at hx hl; subst hx hl; exact h0
  · simp at hx
theorem FnAt.three {w : World} {S : Nat → Prop} {bF c0 c1 c2 : Nat} {a0 a1 a2 : Option Addr} {l0 l1 l2 : List In} (h0 : MSl w S 33 4 a0 c0 (l0.map inC)) (h1 : MSl w S 33 4 a1 c1 (l1.map inC)) (h2 : MSl w S 33 4 a2 c2 (l2.map inC)) (hF : At w bF (B [.slice a0 l0.length c0, .slice a1 l1.length c1, .slice a2 l2.length c2] 34)) (hS : S bF) :
    FnAt w S (some ⟨bF, 0, none⟩) 3 [l0, l1, l2] := by
  refine FnAt.fm.mono (FnAt.of (A := S) (B := S) (ls := [⟨a0, c0⟩, ⟨a1, c1⟩, ⟨a2, c2⟩]) ⟨rfl, fun i x l hx hl => ?_⟩ ⟨rfl, .inr ⟨bF, 0, 3, [], [], rfl, hS, by simpa [fnV] using hF, rfl, Nat.le_refl _, by simp [fnV]⟩⟩) fun y _ hy => hy.elim id id
  rcases i with _ | _ | _ | i
  · simp at hx hl; subst hx hl; exact h0
  · simp at hx hl; subst hx hl; exact h1
  · simp at hx hl; subst hx hl; exact h2
  · simp at hx
end Go.E
end
