/- What four programs have done in the end. -/
import Derived.Test.YtnbekdcepnfpaaaGreatDoorG39
set_option linter.unusedVariables false
set_option linter.unusedSimpArgs false
namespace Go.E

theorem byG_mem {g : Nat} {c : Cmt} {cs : List Cmt} (hc : c ∈ cs) (hg : c.g = g) : c ∈ byG g cs := by
  unfold byG
  simp [hc, hg]
theorem LJ.st {Top Loc : Nat → CG → List Cmt → Prop} {s : Core × List Cmt} (h : LJ Top Loc s) (hT : ∀ n x l, Top n x l → x.st = 1 ∨ x.st = 5) (hL : ∀ g x l, Loc g x l → x.st = 1 ∨ x.st = 5) : ∀ x ∈ s.1.gs, x.st = 1 ∨ x.st = 5 := by
  intro x hx
  obtain ⟨g, hg⟩ := List.getElem?_of_mem hx
  rcases Nat.eq_zero_or_pos g with rfl | h0
  · obtain ⟨y, h1, h2⟩ := h.top
    rw [hg] at h1
    cases h1
    exact hT _ _ _ h2
  · exact hL _ _ _ (h.loc g x h0 hg)
theorem yTop_st {k n : Nat} {x : CG} {l : List Cmt} (h : yTop k n x l) : x.st = 1 ∨ x.st = 5 := h.2.imp (·.1) (·.1)
theorem yLoc_st {y g : Nat} {x : CG} {l : List Cmt} (h : yLoc y g x l) : x.st = 1 ∨ x.st = 5 := h.2.imp (·.1) (·.1)
theorem gTop_st {n : Nat} {x : CG} {l : List Cmt} (h : gTop n x l) : x.st = 1 ∨ x.st = 5 := h.2.2.2.imp (·.1) (·.1)
theorem gLoc_st {g : Nat} {x : CG} {l : List Cmt} (h : gLoc g x l) : x.st = 1 ∨ x.st = 5 := h.2.1
theorem fTop_st {k a n : Nat} {x : CG} {l : List Cmt} (h : fTop k a n x l) : x.st = 1 ∨ x.st = 5 := h.2.2.2.imp (·.1) (·.1)
theorem fLoc_st {a g : Nat} {x : CG} {l : List Cmt} (h : fLoc a g x l) : x.st = 1 ∨ x.st = 5 := by
  rcases h.2.2 with ⟨_, _, h⟩ | ⟨_, _, h⟩
  · exact h.imp (·.1) (·.1)
  · exact h.imp (·.1) (·.1)
theorem yields_end {k y : Nat} {C : Core} {cs : List Cmt} (h : LJ (yTop k) (yLoc y) (C, cs)) (hd : ∀ x ∈ C.gs, x.st = 5) : C.gs.length = k + 1 ∧ ∀ g, 1 ≤ g → g ≤ k → nOp 9 (byG g cs) = y + 1 := by
  obtain ⟨x, h1, h2⟩ := h.top
  have hx := hd x (List.mem_of_getElem? h1)
  have hn : C.gs.length = k + 1 := (h2.2.resolve_left (by rw [hx]; simp)).2
  refine ⟨hn, fun g hg hk => ?_⟩
  have hgl : g < C.gs.length := by omega
  have hz := hd C.gs[g] (by simp)
  exact ((h.loc g C.gs[g] hg (List.getElem?_eq_getElem hgl)).2.resolve_left (by rw [hz]; simp)).2
theorem great_end {C : Core} {cs : List Cmt} (h : LJ gTop gLoc (C, cs)) (hd : ∀ x ∈ C.gs, x.st = 5) :
    C.gs.length = 1024 ∧ spawned cs = upTo 1023 ∧ nP isF cs = 1 ∧ ∀ c ∈ cs, c.fault = true → c.g = 0 ∧ c.op = 8 := by
  obtain ⟨x, h1, h2⟩ := h.top
  have hx := hd x (List.mem_of_getElem? h1)
  obtain ⟨g1, g2, g3, g4⟩ := h2
  obtain ⟨_, hn, hF⟩ := g4.resolve_left (by rw [hx]; simp)
  have own : ∀ c ∈ cs, c.op = 8 ∨ c.fault = true → c.g = 0 := by
    intro c hc hcc
    rcases Nat.eq_zero_or_pos c.g with h0 | h0
    · exact h0
    · exfalso
      have hgl : c.g < C.gs.length := h.gs c hc
      have := (h.loc c.g C.gs[c.g] h0 (List.getElem?_eq_getElem hgl)).2.2 c (byG_mem hc rfl)
      rcases hcc with hcc | hcc
      · exact this.1 hcc
      · rw [this.2] at hcc; cases hcc
  have key : ∀ (P : Cmt → Bool), (∀ c, P c = true → c.op = 8 ∨ c.fault = true) → cs.filter P = (byG 0 cs).filter P := by
    intro P hP
    unfold byG
    rw [List.filter_filter]
    refine List.filter_congr fun c hc => ?_
    by_cases hp : P c = true
    · simp [hp, own c hc (hP c hp)]
    · simp [hp]
  simp only at hn
  refine ⟨hn, ?_, ?_, fun c hc hf => ?_⟩
  · unfold spawned at *
    rw [key isSp (by intro c hc; simp [isSp] at hc; exact .inl hc.1), g2]
    simp only
    rw [hn]
  · unfold nP at *
    rw [key isF (by intro c hc; exact .inr hc)]
    exact hF
  · have h0 := own c hc (.inr hf)
    exact ⟨h0, g3 c (byG_mem hc h0) hf⟩
theorem sum_odd : ∀ k, sumTo (fun g => if g = 0 then 0 else if (g - 1) % 2 = 0 then 1 else 0) (k + 1) = (k + 1) / 2
  | 0 => rfl
  | k + 1 => by
    have ih := sum_odd k
    rw [sumTo, ih]
    simp only [Nat.add_eq_zero_iff, Nat.succ_ne_self, and_false, if_false, Nat.add_sub_cancel]
    split <;> omega
theorem sum_even : ∀ k, sumTo (fun g => if g = 0 then 1 else if (g - 1) % 2 = 0 then 0 else 1) (k + 1) = 1 + k / 2
  | 0 => rfl
  | k + 1 => by
    have ih := sum_even k
    rw [sumTo, ih]
    simp only [Nat.add_eq_zero_iff, Nat.succ_ne_self, and_false, if_false, Nat.add_sub_cancel]
    split <;> omega
theorem faults_end {k a : Nat} {C : Core} {cs : List Cmt} (h : LJ (fTop k a) (fLoc a) (C, cs)) (hd : ∀ x ∈ C.gs, x.st = 5) :
    nP isF cs = (k + 1) / 2 ∧ nP isE cs = 1 + k / 2 ∧ ∀ c ∈ cs, okF a c := by
  obtain ⟨x, h1, h2⟩ := h.top
  have hx := hd x (List.mem_of_getElem? h1)
  obtain ⟨g1, g2, g3, g4⟩ := h2
  obtain ⟨_, hn, hE⟩ := g4.resolve_left (by rw [hx]; simp)
  simp only at hn
  have each : ∀ g, g < k + 1 → nP isF (byG g cs) = (if g = 0 then 0 else if (g - 1) % 2 = 0 then 1 else 0) ∧ nP isE (byG g cs) = (if g = 0 then 1 else if (g - 1) % 2 = 0 then 0 else 1) := by
    intro g hg
    rcases Nat.eq_zero_or_pos g with rfl | h0
    · exact ⟨g3, hE⟩
    · have hg0 : ¬ g = 0 := by omega
      have hn' : C.gs.length = k + 1 := hn
      simp only [if_neg hg0]
      have hgl : g < C.gs.length := by omega
      have hz := hd C.gs[g] (by simp)
      obtain ⟨e1, e2, e3⟩ := h.loc g C.gs[g] h0 (List.getElem?_eq_getElem hgl)
      rcases e3 with ⟨f1, f2, f3⟩ | ⟨f1, f2, f3⟩
      · have := (f3.resolve_left (by rw [hz]; simp)).2
        have hp : (g - 1) % 2 = 0 := by omega
        simp only [if_pos hp]
        exact ⟨this, f2⟩
      · have := (f3.resolve_left (by rw [hz]; simp)).2
        have hp : ¬ (g - 1) % 2 = 0 := by omega
        simp only [if_neg hp]
        exact ⟨f2, this⟩
  have hlt : ∀ c ∈ cs, c.g < k + 1 := fun c hc => by have := h.gs c hc; simp only at this; omega
  refine ⟨?_, ?_, fun c hc => ?_⟩
  · rw [nP_sum isF hlt, sumTo_congr (fun g hg => (each g hg).1), sum_odd]
  · rw [nP_sum isE hlt, sumTo_congr (fun g hg => (each g hg).2), sum_even]
  · rcases Nat.eq_zero_or_pos c.g with h0 | h0
    · exact g2 c (byG_mem hc h0)
    · have hgl : c.g < C.gs.length := h.gs c hc
      exact (h.loc c.g C.gs[c.g] h0 (List.getElem?_eq_getElem hgl)).2.1 c (byG_mem hc rfl)
end Go.E
/- Who yields to one another. -/
set_option linter.unusedVariables false
set_option linter.unusedSimpArgs false
set_option maxRecDepth 10000
noncomputable section
namespace Go.E
open Go Go.Proofs

theorem inC_one {l : List In} : ∀ v ∈ (l.map inC).flatten, v.oneCell' = true := by
  intro v hv
  obtain ⟨r, hr, hv⟩ := List.mem_flatten.1 hv
  obtain ⟨i, _, rfl⟩ := List.mem_map.1 hr
  simp only [inC, List.mem_cons, List.not_mem_nil, or_false] at hv
  rcases hv with rfl | rfl | rfl | rfl <;> rfl
/-- Instructions behind instructions. -/
theorem RUN.incat {v : World} {c c2 : Nat} {a a2 : Option Addr} {l l2 : List In} {S U : Nat → Prop} {ty : TypeId} {args : Array Operand} {K : Value → World → Prop} {X : List PanicEntry → World → Prop} (hs : MSl v S 33 4 a c (l.map inC)) (hx : MSl v U 33 4 a2 c2 (l2.map inC))
    (hl : l.length + l2.length ≤ 2 ^ 20) (k : ∀ a' c' v', (∃ S' : Nat → Prop, Own v S S' ∧ MSl v' S' 33 4 a' c' ((l ++ l2).map inC)) → Ch S v v' → K (.slice a' (l ++ l2).length c') v') :
    RUN (.call ⟨.builtin .append, args, #[34, 34]⟩) ty [.slice a l.length c, .slice a2 l2.length c2] v K X := by
  have h1 : Sl v S 33 4 (.slice a l.length c) l.length (l.map inC).flatten := by have := hs.2; rwa [List.length_map] at this
  have h2 : Sl v U 33 4 (.slice a2 l2.length c2) l2.length (l2.map inC).flatten := by have := hx.2; rwa [List.length_map] at this
  refine RUN.append rfl rfl rfl rfl rfl rfl h1 h2 inC_one (by omega) rfl (fun a' c' v' hv hc => ?_)
  obtain ⟨S', o, q⟩ := hv
  have e : (l.map inC).flatten ++ (l2.map inC).flatten = ((l ++ l2).map inC).flatten := by simp
  rw [e, ← List.length_append] at q
  rw [← List.length_append]
  refine k a' c' v' ⟨S', o, ?_, by rw [List.length_map]; exact q⟩ hc
  intro r hr
  obtain ⟨i, _, rfl⟩ := List.mem_map.1 hr
  rfl
section
variable {w : World} {S : Nat → Prop} {wb mb xb ac : Nat} {aa : Option Addr} {σ : MS} {x : XS} {V : WS}
/-- How the machine and the model stand behind a run in which all is run or dead. -/
theorem done_of {P : Core × List Cmt → Prop} {fs : List (List In)} {n : Nat} (J : WRun P fs n σ x V) (hd : ∀ z ∈ (coreM σ).gs, z.st = 1 ∨ z.st = 5) (h0 : statusF σ ≠ 0) : statusF σ = 1 ∧ ∀ z ∈ (coreM σ).gs, z.st = 5 := by
  rcases status_cases J.ok.inv with h | h | ⟨h1, h2, z, hz, h3⟩
  · exact (h0 h).elim
  · exact h
  · rcases hd z hz with h | h <;> omega
end
theorem yields_ok {k y : Nat} (hk : k ≤ 10) (hy : y ≤ 30) : ∀ l ∈ yieldsP k y, 1 ≤ l.length ∧ l.length ≤ 64 ∧ ∀ i ∈ l, okB 0 2 l.length i ∧ (i.op = 0 ∨ i.op = 2 ∨ i.op = 4 ∨ i.op = 5 ∨ i.op = 8 ∨ i.op = 9 ∨ i.op = 11 ∨ i.op = 12 ∨ i.op = 14 ∨ i.op = 16 ∨ i.op = 17) := by
  intro l hl
  simp only [yieldsP, List.mem_cons, List.not_mem_nil, or_false] at hl
  rcases hl with rfl | rfl
  · refine ⟨by simp, by simp; omega, fun i hi => ?_⟩
    simp only [List.mem_append, List.mem_replicate, List.mem_cons, List.not_mem_nil, or_false] at hi
    rcases hi with ⟨_, rfl⟩ | rfl <;> simp [okB]
  · refine ⟨by simp, by simp, fun i hi => ?_⟩
    simp only [List.mem_cons, List.not_mem_nil, or_false] at hi
    rcases hi with rfl | rfl | rfl <;> (simp [okB]; try omega)
theorem yields_good {k y : Nat} (hk : k ≤ 10) (hy : y ≤ 30) : GoodP 0 (yieldsP k y) := good_of (by decide) (by simp [yieldsP]) (fun l hl => ⟨(yields_ok hk hy l hl).1, (yields_ok hk hy l hl).2.1, fun i hi => ((yields_ok hk hy l hl).2.2 i hi).1⟩)
theorem yields_plain {k y : Nat} (hk : k ≤ 10) (hy : y ≤ 30) : plainP (yieldsP k y) := ⟨by simp [yieldsP], by simp [yieldsP], fun l hl i hi => plain_of (yields_ok hk hy l hl).2.1 ((yields_ok hk hy l hl).2.2 i hi).1 ((yields_ok hk hy l hl).2.2 i hi).2⟩
theorem rep_app {α : Type} (i : Nat) (a : α) : List.replicate i a ++ [a] = List.replicate (i + 1) a := (List.replicate_succ' ..).symm
theorem cmts_take {cs : List Cmt} {i : Nat} {c : Cmt} (h : cs[i]? = some c) : cs.take (i + 1) = cs.take i ++ [c] := by
  obtain ⟨h1, h2⟩ := List.getElem?_eq_some_iff.1 h
  rw [List.take_succ_eq_append_getElem h1, h2]
theorem byG_app (g : Nat) (cs : List Cmt) (c : Cmt) : byG g (cs ++ [c]) = if c.g = g then byG g cs ++ [c] else byG g cs := by
  unfold byG
  rw [List.filter_append]
  by_cases h : c.g = g <;> simp [h]
theorem byG_len (g : Nat) (cs : List Cmt) : (byG g cs).length ≤ cs.length := List.length_filter_le _ _
theorem nOp_len (o : Nat) (l : List Cmt) : nOp o l ≤ l.length := List.length_filter_le _ _
/-- How often each yielded. -/
def ycount (k : Nat) (cs : List Cmt) : List Int := (List.range (k + 1)).map fun g => ((nOp 9 (byG g cs) : Nat) : Int)
theorem ycount_get {k g : Nat} {cs : List Cmt} (h : g < k + 1) : (ycount k cs)[g]? = some ((nOp 9 (byG g cs) : Nat) : Int) := by simp [ycount, h]
theorem ycount_app {k : Nat} {cs : List Cmt} {c : Cmt} (h : c.g < k + 1) : ycount k (cs ++ [c]) = if c.op = 9 then (ycount k cs).set c.g ((nOp 9 (byG c.g cs) : Nat) + 1) else ycount k cs := by
  refine List.ext_getElem? fun j => ?_
  by_cases hj : j < k + 1
  · rw [ycount_get hj, byG_app]
    by_cases h9 : c.op = 9
    · rw [if_pos h9]
      by_cases hg : c.g = j
      · subst hg
        rw [if_pos rfl, nOp_app, if_pos h9, List.getElem?_set_self (by simp [ycount]; omega)]
        simp
      · rw [if_neg hg, List.getElem?_set_ne hg, ycount_get hj]
    · rw [if_neg h9, ycount_get hj]
      split
      · rw [nOp_app, if_neg h9]; rfl
      · rfl
  · have h1 : (ycount k (cs ++ [c])).length = k + 1 := by simp [ycount]
    have h2 : (ycount k cs).length = k + 1 := by simp [ycount]
    rw [List.getElem?_eq_none (by omega), List.getElem?_eq_none]
    split
    · rw [List.length_set]; omega
    · omega
theorem yields_law {ps words : Int} {f1 f2 : Nat} {n m : Int} (w : World) : Calls PP 9 #[.agg (cfgV ps words f1 f2).toArray, i64 n, i64 m] w (fun e w' => e = .returned (.bool true) ∧ Ext w w') := by
  have hu := u64_bd n
  have hu2 := u64_bd m
  refine calls_sem (fn := Tryz.f9) (args := [_, _, _]) Tryz.func9 rfl (by simp) (fun R hR => ?_)
  refine SEM.cut (X := Nat × Nat × Nat × Nat × XS × MS × WS × Nat) 8 (fun t => [(7, i64 t.1), (8, i64 t.2.1), (12, pt t.2.2.1)])
    (fun t w' => t.1 ≤ 10 ∧ t.2.1 ≤ 30 ∧ Ext w w' ∧ (∃ S mb xb aa ac, (∀ y, S y → w.heap.size ≤ y) ∧ Side w' S (wP t.2.2.1 mb xb aa ac t.2.2.2.2.2.1 t.2.2.2.2.1 t.2.2.2.2.2.2.1)) ∧ WRun (LJ (yTop t.1) (yLoc t.2.1)) (yieldsP t.1 t.2.1) t.2.2.2.2.2.2.2 t.2.2.2.2.2.1 t.2.2.2.2.1 t.2.2.2.2.2.2.1) rfl ?_ ?_
  · refine RUN.box (fun b3 w1 n1 => ?_)
    refine CVI.mk (IntKind.wrap .u64 n) rfl ?_
    refine ART.urem (by omega) (by omega) (by omega) (fun r1 g1 => ?_)
    refine CVI.i64 (by omega) (fun r2 g2 => ?_)
    refine ART.add (by omega) (fun kk hk => ?_)
    refine CVI.mk (IntKind.wrap .u64 m) rfl ?_
    refine ART.urem (by omega) (by omega) (by omega) (fun r3 g3 => ?_)
    refine CVI.i64 (by omega) (fun r4 g4 => ?_)
    refine ART.add (by omega) (fun yy hy => ?_)
    obtain ⟨k, rfl⟩ : ∃ k : Nat, kk = k := ⟨kk.toNat, by omega⟩
    obtain ⟨y, rfl⟩ : ∃ y : Nat, yy = y := ⟨yy.toNat, by omega⟩
    have hk10 : k ≤ 10 := by omega
    have hy30 : y ≤ 30 := by omega
    clear hk hy g4 g3 g2 g1 hu hu2
    refine LOOP.inv (X := Nat × Option Addr × Nat) (fun t => [(3, pt b3), (7, i64 k), (8, i64 y), (9, .slice t.2.1 (List.replicate t.1 (⟨8, 1, 0, 0⟩ : In)).length t.2.2), (10, i64 t.1)])
      (fun t w' => t.1 ≤ k ∧ MSl w' (fun y => w1.heap.size ≤ y) 33 4 t.2.1 t.2.2 ((List.replicate t.1 (⟨8, 1, 0, 0⟩ : In)).map inC) ∧ Ext w1 w') (fun t => k - t.1) (0, none, 0) ⟨rfl, rfl, rfl, rfl, rfl, trivial⟩ ⟨Nat.zero_le _, MSl.nil _ _ _ _, Ext.refl _⟩ ?_
    rintro ⟨i, a, c⟩ w2 ⟨hi, m2, x2⟩ j2
    simp only at hi m2
    by_cases hlt : i < k
    · refine CLt.yes (by omega) ?_
      refine RUN.buildSlice rfl rfl rfl rfl rfl rfl rfl (fun be w3 n3 => ?_)
      refine RUN.incat (l := List.replicate i ⟨8, 1, 0, 0⟩) (l2 := [⟨8, 1, 0, 0⟩]) (MSl.fm.ext m2 n3.ext) (MSl.lit (l := [⟨8, 1, 0, 0⟩]) (S := fun _ => True) n3.here trivial rfl) (by simp; omega) (fun a' c' v' hv hc => ?_)
      obtain ⟨S', o, q⟩ := hv
      rw [rep_app] at q ⊢
      refine ART.add (by omega) (fun r hr => ?_)
      subst hr
      have z := x2.size
      have z3 := n3.ext.size
      refine Nxt.mk ((i + 1, a', c')) ?_ ?_ ?_
      · exact ⟨rfl, rfl, rfl, rfl, rfl, trivial⟩
      · exact ⟨hlt, MSl.fm.mono q fun y _ hy => by rcases o y hy with h | h <;> omega, (x2.trans' n3.ext).trans hc (fun y hy hh => by omega)⟩
      · show k - (i + 1) < k - i
        omega
    have hik : i = k := by omega
    subst hik
    refine CLt.no (by omega) ?_
    replace m2 : MSl w2 (fun y => w1.heap.size ≤ y ∧ y < w2.heap.size) 33 4 a c ((List.replicate i (⟨8, 1, 0, 0⟩ : In)).map inC) := MSl.fm.mono m2 fun y hy hs => ⟨hs, hy⟩
    refine RUN.buildSlice rfl rfl rfl rfl rfl rfl rfl (fun bb w3 n3 => ?_)
    have gB : At w3 bb (B (([⟨16, 0, y, 0⟩, ⟨9, 0, 0, 0⟩, ⟨17, 1, 0, 0⟩] : List In).map inC).flatten 33) := n3.here
    have h3 : At w3 b3 (B (cfgV ps words f1 f2) 24) := Ext.at (x2.trans' n3.ext) n1.here
    have z1 := n1.here.lt
    have z2 := x2.size
    have z3 := n3.ext.size
    refine RUN.sti h3 rfl (by simp [cfgV]) (fun w4 u4 => ?_)
    have g4 : At w4 b3 (B (cfgV 0 words f1 f2) 24) := u4.here
    have m4 : MSl w4 (fun y => w1.heap.size ≤ y ∧ y < w2.heap.size) 33 4 a c ((List.replicate i (⟨8, 1, 0, 0⟩ : In)).map inC) := MSl.fm.ch (MSl.fm.ext m2 n3.ext) u4.ch (fun y _ hy hh => by omega)
    have gB4 := u4.at gB (by have := n3.blk; omega)
    have z4 := u4.size
    refine DRAW.k 8 [(0, .q), (1, .q), (2, .q), (5, .q), (3, .s), (4, .s), (6, .s), (7, .q)] [b3] (by kernel_rfl) (fun _ _ _ _ _ h => h) ?_
    refine RUNQ.klda (vs := cfgV 0 words f1 f2) g4 (by simp) rfl (Nat.le_of_ble_eq_true rfl) rfl ?_
    intro v1 y1 t1
    refine RUN.buildSlice rfl rfl rfl rfl rfl rfl rfl (fun be v2 n2' => ?_)
    refine ⟨Keep.ext _ _ _ _ t1 n2'.ext, ?_⟩
    intro v3 y3 t3
    have s13 := y1.size
    have s23 := n2'.ext.size
    have s33 := y3.size
    have m3 := MSl.fm.ext m4 ((y1.trans' n2'.ext).trans' y3)
    refine RUN.incat (l := List.replicate i ⟨8, 1, 0, 0⟩) (l2 := [⟨0, 0, 0, 0⟩]) m3 (MSl.lit (l := [⟨0, 0, 0, 0⟩]) (S := fun _ => True) (y3.at n2'.here) trivial rfl) (by simp; omega) (fun a' c' v4 hv hc => ?_)
    obtain ⟨S', o, q⟩ := hv
    have hbb := n3.blk
    have hbe := n2'.blk
    refine ⟨Keep.ch t3 hc (fun y hy _ hh => by simp at hy; omega), ?_⟩
    intro v5 y5 t5
    refine RUN.buildSlice rfl rfl rfl rfl rfl rfl rfl (fun bF v6 n6 => ?_)
    refine ⟨Keep.ext _ _ _ _ t5 n6.ext, ?_⟩
    refine CALLQ.mk _ rfl (fun w' hs => one_in) ?_
    intro v7 y7
    have x67 := n6.ext.trans' y7
    have zw := n1.ext.size
    have x03 : Ext w w3 := n1.ext.trans' (x2.trans' n3.ext)
    have x04 : Ext w w4 := x03.trans u4.ch (fun y hy hh => by have := n1.blk; omega)
    have xv3 : Ext w v3 := x04.trans' ((y1.trans' n2'.ext).trans' y3)
    have xv4 : Ext w v4 := xv3.trans hc (fun y hy hh => by omega)
    have xF : Ext w v7 := xv4.trans' (y5.trans' x67)
    have zF := xF.size
    have zv3 := xv3.size
    have zv5 := y5.size
    have zv4 := xv4.size
    have b6' := n6.blk
    have gB7 : At v7 bb (B (([⟨16, 0, y, 0⟩, ⟨9, 0, 0, 0⟩, ⟨17, 1, 0, 0⟩] : List In).map inC).flatten 33) := Ext.at x67 (y5.at (hc.at (y3.at (n2'.at (y1.at gB4))) (fun hh => by omega)))
    have hF : FnAt v7 (fun y => w.heap.size ≤ y) (some ⟨bF, 0, none⟩) 2 (yieldsP i y) := FnAt.two (MSl.fm.mono (MSl.fm.ext q (y5.trans' x67)) fun y _ hy => by rcases o y hy with h | h <;> omega) (MSl.lit gB7 (by omega) rfl) (y7.at n6.here) (by omega)
    have hC := new_in (ps := 0) (words := words) (f1 := f1) (f2 := f2) hF (yields_good hk10 hy30)
    refine CALL.by hC rfl ?_
    rintro e w7 ⟨wb, bs, pct, nn, rfl, hn, hn1, hn2, hp1, hp2, hbl, ⟨mb, xb, aa, ac, q7⟩, c7⟩
    obtain ⟨O, hc0⟩ := wok0 (g := 0) (fs := yieldsP i y) (bs := bs) (ps := fitPs 0) (words := fitWords words) (n := nn) (pct := pct) (f1 := f1) (f2 := f2) (yields_plain hk10 hy30).len (by omega) (by omega) hbl
    have J : WRun (LJ (yTop i) (yLoc y)) (yieldsP i y) bs.length (σ0 0 (yieldsP i y) bs (fitWords words) nn pct f1 f2) (x0 0 (yieldsP i y)) (ws0 (fitPs 0) (fitWords words) f1 f2) := ⟨O, rfl, by show (bs.map prc0).length = _; simp, by
      rw [hc0]
      refine ⟨rfl, fun _ => rfl, fun c hc => by simp [σ0, spawnF, readyF, ms0] at hc, ⟨_, rfl, rfl, .inl ⟨rfl, rfl, Nat.zero_le _⟩⟩, fun g z hg hz => ?_⟩
      rcases g with _ | g
      · omega
      · simp [core0] at hz, by show (0 : Int) ≤ _; decide⟩
    refine RUN.ld (q7.blk 0 rfl) rfl (rfl) ?_
    refine RUN.ld (q7.blk 0 rfl) rfl (show _ = some (i64 1) from rfl) ?_
    refine CEq.yes (rfl) ?_
    refine CALL.by (wrun_in q7 J (by omega) (by omega) (Int.le_refl _) (fun s s' h1 h2 => yields_step (by omega) h1 h2) (fun s h1 z h2 h3 => (yields_plain hk10 hy30).at _ _)) rfl ?_
    rintro e w8 ⟨σ', x', V', rfl, q8, c8, J8, _⟩
    have x07 : Ext w w7 := xF.trans c7 (fun y hy hh => by omega)
    have z07 := x07.size
    have x08 : Ext w w8 := x07.trans c8 (fun y hy hh => by rcases hh with hh | hh <;> omega)
    exact ⟨rfl, (i, y, wb, mb, x', σ', V', bs.length), ⟨rfl, rfl, rfl, trivial⟩, hk10, hy30, x08, ⟨_, _, _, _, _, fun y hy => by rcases hy with (hy | hy) | hy <;> omega, q8⟩, J8⟩
  rintro ⟨k, y, wb, _, x', σ', V', nb⟩ w1 ⟨hk10, hy30, x01, ⟨S, mb, xb, aa, ac, hSw, q1⟩, J⟩ j1
  simp only at hk10 hy30 q1 J
  have hM : MAt w1 S mb σ' := q1.get 1 rfl
  refine SEM.of ?_
  refine RUN.ld (q1.blk 0 rfl) rfl (rfl) ?_
  refine CALL.by (status_in hM) rfl ?_
  rintro e w2 ⟨rfl, x2⟩
  by_cases h0 : statusF σ' = 0
  · refine CEq.yes (h0) ?_
    refine CALL.by (told_in w2) rfl ?_
    rintro e w3 ⟨rfl, x3⟩
    exact hR _ _ ⟨rfl, (x01.trans' x2).trans' x3⟩
  have hall := LJ.st J.p (fun _ _ _ h => yTop_st h) (fun _ _ _ h => yLoc_st h)
  obtain ⟨h1, h5⟩ := done_of J hall h0
  obtain ⟨hgl, hend⟩ := yields_end J.p h5
  have q2 := Side.fm.ext q1 x2
  refine CEq.no (h0) ?_
  refine RUN.ld (q2.blk 0 rfl) rfl (rfl) ?_
  refine CALL.by (status_in (MAt.fm.ext hM x2)) rfl ?_
  rintro e w3 ⟨rfl, x3⟩
  have q3 := Side.fm.ext q2 x3
  refine CEq.yes (h1) ?_
  refine ART.add (by omega) (fun r hr => ?_)
  refine RUN.mkslice (n := k + 1) rfl rfl rfl rfl (by omega) (by omega) (by omega) rfl (fun bd w4 n4 => ?_)
  have q4 := Side.fm.ext q3 n4.ext
  have gd : At w4 bd (B (ints (ycount k [])) 3) := by
    have e : ints (ycount k []) = List.replicate (k + 1) (i64 0) := by
      refine List.ext_getElem? fun j => ?_
      by_cases hj : j < k + 1
      · rw [ints_get (ycount_get hj)]
        simp [hj, byG, nOp]
      · rw [List.getElem?_eq_none (by simp [ints, ycount]; omega), List.getElem?_eq_none (by simp; omega)]
    rw [e]
    exact n4.here
  have hcml : (σ'.commits.length : Int) ≤ 2 ^ 40 := by have := J.ok.inv.cm; have := J.stb; omega
  have hM4 : MAt w4 S mb σ' := q4.get 1 rfl
  have hSb : ∃ T : Nat → Prop, (∀ y, T y → y < w4.heap.size ∧ y ≠ bd) ∧ Side w4 T (wP wb mb xb aa ac σ' x' V') := by
    refine ⟨fun y => S y ∧ y < w3.heap.size, fun y hy => ⟨by have := n4.ext.size; omega, by have := n4.blk; omega⟩, ?_⟩
    exact Side.fm.ext (Side.fm.mono q3 fun y hy hs => ⟨hs, hy⟩) n4.ext
  obtain ⟨T, hT, qT⟩ := hSb
  have lenY : ∀ cs, (ints (ycount k cs)).length = k + 1 := fun cs => by simp [ints, ycount]
  rw [List.length_replicate]
  refine LOOP.inv (X := Nat) (fun i => [(7, i64 k), (8, i64 y), (12, pt wb), (13, .slice (some ⟨bd, 0, none⟩) (k + 1) (k + 1)), (14, i64 i)]) (fun i w' => i ≤ σ'.commits.length ∧ Side w' T (wP wb mb xb aa ac σ' x' V') ∧ At w' bd (B (ints (ycount k (σ'.commits.take i))) 3) ∧ Ext w w') (fun i => σ'.commits.length - i) 0 ⟨rfl, rfl, rfl, rfl, rfl, trivial⟩ ⟨Nat.zero_le _, qT, gd, ((x01.trans' x2).trans' x3).trans' n4.ext⟩ ?_
  rintro i w5 ⟨hi, q5, g5, x05⟩ j5
  refine RUN.ld (q5.blk 0 rfl) rfl (rfl) ?_
  refine CALL.by (mcommits_in (q5.get 1 rfl : MAt w5 T mb σ')) rfl ?_
  rintro e w6 ⟨rfl, x6⟩
  have q6 := Side.fm.ext q5 x6
  have g6 := x6.at g5
  by_cases hlt : i < σ'.commits.length
  · obtain ⟨c, hc⟩ : ∃ c, σ'.commits[i]? = some c := ⟨_, List.getElem?_eq_getElem hlt⟩
    have hcg : c.g < k + 1 := by rw [← hgl]; exact J.p.gs c (List.mem_of_getElem? hc)
    refine CLt.yes ((by omega)) ?_
    refine RUN.ld (q6.blk 0 rfl) rfl (rfl) ?_
    refine CALL.by (mcommit_in (j := i) (q6.get 1 rfl : MAt w6 T mb σ') rfl hc) rfl ?_
    rintro e w7 ⟨rfl, x7⟩
    refine RUN.alloc rfl rfl (fun b15 w8 n8 => ?_)
    refine RUN.sta (vs := cmC c) n8.here rfl (by simp [cmC]) (by simp [cmC, Value.oneCell']) (fun w9 u9 => ?_)
    have x69 : Ext w6 w9 := x7.trans' (n8.ext.trans u9.ch (fun y hy hb => by have := n8.blk; omega))
    have q9 := Side.fm.ext q6 x69
    have g9 := x69.at g6
    have hno : nOp 9 (byG c.g (σ'.commits.take i)) ≤ σ'.commits.length := by
      have h1 := nOp_len 9 (byG c.g (σ'.commits.take i))
      have h2 := byG_len c.g (σ'.commits.take i)
      have h3 : (σ'.commits.take i).length ≤ σ'.commits.length := by simp; omega
      omega
    have hyc := ycount_app (k := k) (cs := σ'.commits.take i) (c := c) hcg
    refine RUN.ld u9.here rfl (show _ = some (i64 c.op) from rfl) ?_
    by_cases h9 : c.op = 9
    · rw [if_pos h9] at hyc
      refine CEq.yes (by omega) ?_
      refine RUN.ld u9.here rfl (show _ = some (i64 c.g) from rfl) ?_
      refine BD.mk (0 + c.g * 1) ⟨by omega, by omega, by omega⟩ ?_
      refine RUN.ld g9 rfl ((by rw [show 0 + c.g * 1 = c.g by omega]; exact ints_get (ycount_get hcg))) ?_
      refine ART.add (by omega) (fun r1 hr1 => ?_)
      refine BD.mk (0 + c.g * 1) ⟨by omega, by omega, by omega⟩ ?_
      refine RUN.sti g9 rfl (by rw [lenY]; omega) (fun wa ua => ?_)
      refine ART.add (by omega) (fun r2 hr2 => ?_)
      subst hr1 hr2
      refine Nxt.mk (i + 1) ?_ ?_ ?_
      · exact ⟨rfl, rfl, rfl, rfl, rfl, trivial⟩
      · refine ⟨hlt, Side.fm.ch q9 ua.ch (fun y _ hy hh => (hT y hy).2 hh), ?_, ((x05.trans' x6).trans' x69).trans ua.ch (fun y hy hh => by have := n4.blk; have := ((x01.trans' x2).trans' x3).size; omega)⟩
        rw [cmts_take hc, hyc, ← ints_set]
        have := ua.here
        rwa [show 0 + c.g * 1 = c.g by omega] at this
      · omega
    · rw [if_neg h9] at hyc
      refine CEq.no (by omega) ?_
      refine ART.add (by omega) (fun r2 hr2 => ?_)
      subst hr2
      refine Nxt.mk (i + 1) ?_ ?_ ?_
      · exact ⟨rfl, rfl, rfl, rfl, rfl, trivial⟩
      · refine ⟨hlt, q9, ?_, (x05.trans' x6).trans' x69⟩
        rw [cmts_take hc, hyc]
        exact g9
      · omega
  have hil : i = σ'.commits.length := by omega
  subst hil
  refine CLt.no (by omega) ?_
  rw [List.take_length] at g6
  refine LOOP.inv (X := Nat) (fun i => [(7, i64 k), (8, i64 y), (13, .slice (some ⟨bd, 0, none⟩) (k + 1) (k + 1)), (17, i64 i)]) (fun i w' => 1 ≤ i ∧ i ≤ k + 1 ∧ w' = w6) (fun i => k + 1 - i) 1 ⟨rfl, rfl, rfl, rfl, trivial⟩ ⟨Nat.le_refl _, by omega, rfl⟩ ?_
  rintro i _ ⟨hi1, hi2, rfl⟩ j7
  by_cases hik : i ≤ k
  · refine CLt.no (by omega) ?_
    refine BD.mk (0 + i * 1) ⟨by omega, by omega, by omega⟩ ?_
    refine RUN.ld g6 rfl ((by rw [show 0 + i * 1 = i by omega]; exact ints_get (ycount_get (by omega)))) ?_
    refine ART.add (by omega) (fun r1 hr1 => ?_)
    refine CEq.yes ((by rw [hend i hi1 hik]; omega)) ?_
    refine ART.add (by omega) (fun r2 hr2 => ?_)
    subst hr2
    refine Nxt.mk (i + 1) ?_ ?_ ?_
    · exact ⟨rfl, rfl, rfl, rfl, trivial⟩
    · exact ⟨by omega, by omega, rfl⟩
    · omega
  · refine CLt.yes (by omega) ?_
    refine CALL.by (told_in _) rfl ?_
    rintro e w7 ⟨rfl, x7⟩
    exact hR _ _ ⟨rfl, (x05.trans' x6).trans' x7⟩
end Go.E
end
