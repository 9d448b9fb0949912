/- What four programs keep, whoever goes on. -/
import Derived.Test.YtnbekdcepnfpaaaGreatDoorG10
import Derived.Test.YtnbekdcepnfpaaaGreatDoorG11
set_option linter.unusedVariables false
set_option linter.unusedSimpArgs false
namespace Go.E

/-- A step of a goroutine that may go on. -/
def CStep (fs : List (List In)) (s s' : Core × List Cmt) : Prop := ∃ g x, s.1.gs[g]? = some x ∧ x.st = 1 ∧ s' = ((cex s.1 g x (instAt fs x.f x.pc)).1, s.2 ++ [(cex s.1 g x (instAt fs x.f x.pc)).2])

theorem mod_get {α : Type _} {l : List α} {k j : Nat} {f : α → α} {y : α} (h : (l.modify k f)[j]? = some y) : ∃ x, l[j]? = some x ∧ (y = x ∨ (j = k ∧ y = f x)) := by
  rw [List.getElem?_modify] at h
  cases hx : l[j]? with
  | none => rw [hx] at h; simp at h
  | some x =>
    rw [hx] at h
    simp at h
    refine ⟨x, rfl, ?_⟩
    by_cases hk : k = j
    · rw [if_pos hk] at h; exact .inr ⟨hk.symm, h.symm⟩
    · rw [if_neg hk] at h; exact .inl h.symm
theorem set_get' {α : Type _} {l : List α} {i j : Nat} {a x : α} (h : (l.set i a)[j]? = some x) : (j = i ∧ x = a) ∨ (j ≠ i ∧ l[j]? = some x) := by
  by_cases hj : j = i
  · subst hj
    have hl := (List.getElem?_eq_some_iff.1 h).1
    rw [List.getElem?_set_self (by simpa using hl)] at h
    exact .inl ⟨rfl, (Option.some.inj h).symm⟩
  · rw [List.getElem?_set_ne (Ne.symm hj)] at h
    exact .inr ⟨hj, h⟩

/-! ### Two that wake one another -/
def waitsP (k : Nat) : List (List In) := [[⟨8, 1, 0, 0⟩, ⟨16, 0, k, 0⟩, ⟨11, 1, 0, 0⟩, ⟨12, 2, 0, 0⟩, ⟨17, 2, 0, 0⟩, ⟨0, 0, 0, 0⟩], [⟨9, 0, 0, 0⟩, ⟨12, 1, 0, 0⟩, ⟨11, 2, 0, 0⟩, ⟨14, 1, 0, 0⟩]]
/-- Who goes on for ever is not dead. -/
def waitsJ (C : Core) : Prop := C.tim = [] ∧ ((∃ x, C.gs = [x] ∧ x.st ≠ 5 ∧ x.f = 0 ∧ x.pc = 0) ∨ ∃ x y, C.gs = [x, y] ∧ x.f = 0 ∧ 1 ≤ x.pc ∧ y.f = 1 ∧ y.pc < 4 ∧ y.st ≠ 5)
theorem mod_two {x y : CG} {k : Nat} : ∃ x' y', [x, y].modify k (fun z => { z with st := 1 }) = [x', y'] ∧ x'.f = x.f ∧ x'.pc = x.pc ∧ y'.f = y.f ∧ y'.pc = y.pc ∧ (y'.st = y.st ∨ y'.st = 1) := by
  rcases k with _ | _ | k
  · exact ⟨_, _, rfl, rfl, rfl, rfl, rfl, .inl rfl⟩
  · exact ⟨_, _, rfl, rfl, rfl, rfl, rfl, .inr rfl⟩
  · refine ⟨x, y, ?_, rfl, rfl, rfl, rfl, .inl rfl⟩
    simp [List.modify_cons]
theorem two_mod {i : Nat} {l : List CG} (h : ∃ x y, l = [x, y] ∧ x.f = 0 ∧ 1 ≤ x.pc ∧ y.f = 1 ∧ y.pc < 4 ∧ y.st ≠ 5) :
    ∃ x y, l.modify i (fun y => { y with st := 1 }) = [x, y] ∧ x.f = 0 ∧ 1 ≤ x.pc ∧ y.f = 1 ∧ y.pc < 4 ∧ y.st ≠ 5 := by
  obtain ⟨x, y, rfl, a1, a2, a3, a4, a5⟩ := h
  obtain ⟨x', y', e, b1, b2, b3, b4, b5⟩ := mod_two (x := x) (y := y) (k := i)
  refine ⟨x', y', e, by rw [b1]; exact a1, by rw [b2]; exact a2, by rw [b3]; exact a3, by rw [b4]; exact a4, ?_⟩
  rcases b5 with b5 | b5 <;> rw [b5]
  · exact a5
  · decide
theorem waits_two {C C' : Core} {x' y' : CG} (ht : C'.tim = []) (h : C'.gs = [x', y']) (h1 : x'.f = 0) (h2 : 1 ≤ x'.pc) (h3 : y'.f = 1) (h4 : y'.pc < 4) (h5 : y'.st ≠ 5) : waitsJ C' := ⟨ht, .inr ⟨x', y', h, h1, h2, h3, h4, h5⟩⟩
theorem waitsJ_step {k : Nat} {s s' : Core × List Cmt} (h : waitsJ s.1) (hs : CStep (waitsP k) s s') : waitsJ s'.1 := by
  obtain ⟨g, z, hz, hz1, rfl⟩ := hs
  obtain ⟨ht, h⟩ := h
  obtain ⟨C, cs⟩ := s
  simp only at *
  rcases h with ⟨x, hx, h1, h2, h3⟩ | ⟨x, y, hx, h1, h2, h3, h4, h5⟩
  · rw [hx] at hz
    rcases g with _ | g
    · simp at hz
      subst hz
      rw [h2, h3]
      have e : instAt (waitsP k) 0 0 = ⟨8, 1, 0, 0⟩ := rfl
      rw [e]
      simp only [cex, hx]
      rw [if_pos (by simp)]
      exact waits_two (C := C) (x' := x.mv) (y' := ⟨1, 1, 0, 0, stk0 (x.stack.getD 0 0)⟩) ht rfl h2 (by simp [CG.mv]) rfl (by simp) (by simp)
    · simp at hz
  · rw [hx] at hz
    rcases g with _ | _ | g
    · simp at hz
      subst hz
      rw [h1]
      generalize hp : x.pc = p at *
      have mvp : x.mv.pc = p + 1 := by simp [CG.mv, hp]
      rcases p with _ | _ | _ | _ | _ | _ | p
      · omega
      · exact waits_two (C := C) (x' := { x.mv with count := 256 * 0 + k }) (y' := y) ht (by simp [waitsP, instAt, cex, hx, cOk]) h1 (by rw [show ({ x.mv with count := 256 * 0 + k } : CG).pc = x.mv.pc from rfl, mvp]; omega) h3 h4 h5
      · exact waits_two (C := C) (x' := { x.mv with st := 3 }) (y' := y) ht (by simp [waitsP, instAt, cex, hx, cOk]) h1 (by rw [show ({ x.mv with st := 3 } : CG).pc = x.mv.pc from rfl, mvp]; omega) h3 h4 h5
      · have e : instAt (waitsP k) 0 (0 + 1 + 1 + 1) = ⟨12, 2, 0, 0⟩ := rfl
        rw [e]
        simp only [cex]
        split
        · exact waits_two (C := C) (x' := x.mv) (y' := y) ht (by simp [hx, cOk]) h1 (by omega) h3 h4 h5
        · exact ⟨ht, .inr (two_mod ⟨x.mv, y, by simp [hx], h1, by omega, h3, h4, h5⟩)⟩
      · have e : instAt (waitsP k) 0 (0 + 1 + 1 + 1 + 1) = ⟨17, 2, 0, 0⟩ := rfl
        rw [e]
        by_cases hc : 0 < x.count
        · exact waits_two (C := C) (x' := { x.mv with count := x.count - 1, pc := 2 }) (y' := y) ht (by simp [cex, hx, cOk, hc]) h1 (by simp) h3 h4 h5
        · exact waits_two (C := C) (x' := x.mv) (y' := y) ht (by simp [cex, hx, cOk, hc]) h1 (by omega) h3 h4 h5
      · exact waits_two (C := C) (x' := { x.mv with st := 5 }) (y' := y) ht (by simp [waitsP, instAt, cex, hx, cOk]) h1 (by rw [show ({ x.mv with st := 5 } : CG).pc = x.mv.pc from rfl, mvp]; omega) h3 h4 h5
      · have e : instAt (waitsP k) 0 (p + 1 + 1 + 1 + 1 + 1 + 1) = ⟨0, 0, 0, 0⟩ := by simp [instAt, waitsP]
        rw [e]
        exact waits_two (C := C) (x' := { x.mv with st := 5 }) (y' := y) ht (by simp [cex, hx, cOk]) h1 (by rw [show ({ x.mv with st := 5 } : CG).pc = x.mv.pc from rfl, mvp]; omega) h3 h4 h5
    · simp at hz
      subst hz
      rw [h3]
      generalize hp : y.pc = p at *
      have mvp : y.mv.pc = p + 1 := by simp [CG.mv, hp]
      have mvs : y.mv.st ≠ 5 := by simp [CG.mv, hz1]
      rcases p with _ | _ | _ | _ | p
      · exact waits_two (C := C) (x' := x) (y' := y.mv) ht (by simp [waitsP, instAt, cex, hx, cOk]) h1 h2 h3 (by omega) mvs
      · have e : instAt (waitsP k) 1 (0 + 1) = ⟨12, 1, 0, 0⟩ := rfl
        rw [e]
        simp only [cex]
        split
        · exact waits_two (C := C) (x' := x) (y' := y.mv) ht (by simp [hx, cOk]) h1 h2 h3 (by omega) mvs
        · exact ⟨ht, .inr (two_mod ⟨x, y.mv, by simp [hx], h1, h2, h3, by omega, mvs⟩)⟩
      · exact waits_two (C := C) (x' := x) (y' := { y.mv with st := 3 }) ht (by simp [waitsP, instAt, cex, hx, cOk]) h1 h2 h3 (by rw [show ({ y.mv with st := 3 } : CG).pc = y.mv.pc from rfl, mvp]; omega) (by simp)
      · exact waits_two (C := C) (x' := x) (y' := { y.mv with pc := 1 }) ht (by simp [waitsP, instAt, cex, hx, cOk]) h1 h2 h3 (by simp) mvs
      · omega
    · simp at hz
end Go.E
/- What the machine's steps make of its state, plainly. -/
set_option linter.unusedVariables false
set_option linter.unusedSimpArgs false
set_option maxRecDepth 10000
noncomputable section
namespace Go.E
open Go Go.Proofs

def row (σ : MS) (p : Nat) : List Int := σ.rows.getD p []
def readyF (σ : MS) (p : Nat) (g : Int) : MS := { σ with rows := σ.rows.set p (rput (row σ p) g).1, common := σ.common ++ (rput (row σ p) g).2 }
def mvF (σ : MS) (g : Nat) (t : Int) : MS := { σ with st := σ.st.set g t }
def setP (σ : MS) (p : Nat) (x : Prc) : MS := { σ with ps := σ.ps.set p x }
def setG (σ : MS) (g : Nat) (y : Gor) : MS := { σ with gs := σ.gs.set g y }
def wakeF (p : Nat) : List Nat → MS → MS
  | [], σ => σ
  | g :: l, σ => wakeF p l (readyF (mvF σ g 1) p g)
def awayF (σ : MS) (p g : Nat) (x : Prc) : MS := setP (readyF (mvF σ g 1) p g) p { x with g := -1 }
def statusF (σ : MS) : Int := if σ.out = true then 2 else if cntI 5 σ.st = σ.st.length then 1 else if cntI 1 σ.st + cntI 2 σ.st + cntI 4 σ.st + σ.tim.length = 0 then 3 else 0
/-- Which tick is told as a P picks; what it remembers. -/
def tickF (off : Bool) (x : Prc) : Int := if x.passed < 2 ∧ ((x.picks + 1) % 2 = 0 ∨ off = true) then 61 else 1
def passF (off : Bool) (x : Prc) (row common : List Int) : Int := if tickF off x = 1 ∨ row = [] ∨ common = [] then 0 else x.passed + 1
def pickedP (off : Bool) (x : Prc) (row common : List Int) : Prc := { x with picks := x.picks + 1, passed := passF off x row common }
def tookP (x : Prc) (g : Int) : Prc := { x with row := if g = x.last then x.row else 0, g := g, last := g }
inductive TakeR (σ : MS) (p : Nat) (v : Int) (x : Prc) (off : Bool) : MS → Prop
  | none (h1 : row σ p = []) (h2 : σ.common = []) : TakeR σ p v x off (setP σ p (pickedP off x (row σ p) σ.common))
  | some {g : Nat} {rows' : List (List Int)} {common' : List Int} {y : Gor} (h : PickR σ.rows σ.common p (tickF off x) v g rows' common') (hy : σ.gs[g]? = some y) :
      TakeR σ p v x off (setG (setP { mvF σ g 2 with rows := rows', common := common' } p (tookP (pickedP off x (row σ p) σ.common) g)) g { y with p := p })

def spawnF (σ : MS) (p f : Nat) (v : Int) : MS := readyF { σ with st := σ.st ++ [1], gs := σ.gs ++ [⟨f, 0, 0, stk0 v, 0, 0⟩] } p σ.st.length
def gc0 : Gor := ⟨0, 0, 0, [], 0, 0⟩
/-- What an instruction makes of the state, who goes on how, what it tells. (No allocation, no load, no store, no global is written.) -/
def stk (y : Gor) (k : Nat) : Int := y.stack.getD k 0
def Gor.mv (y : Gor) : Gor := { y with pc := y.pc + 1 }
def opF (σ : MS) (p g : Nat) (y : Gor) (i : In) : MS × Int × Int × Bool :=
  match i.op with
  | 0 => (σ, 5, 0, false)
  | 2 => (σ, 5, 0, true)
  | 4 => (setG σ g { y with stack := y.stack.set i.a (stk y i.b) }, 2, 0, false)
  | 5 => (setG σ g { y with stack := y.stack.set i.a 0 }, 2, 0, false)
  | 6 => (setG σ g { y with stack := y.stack.set i.a (σ.globals.getD i.b 0) }, 2, 0, false)
  | 8 => if σ.st.length < 1024 then (spawnF σ p i.a (stk y i.b), 2, σ.st.length, false) else (σ, 5, 0, true)
  | 9 => (σ, 1, 0, false)
  | 11 => ({ σ with waits := σ.waits.set i.a (σ.waits.getD i.a [] ++ [(g : Int)]) }, 3, 0, false)
  | 12 => match σ.waits.getD i.a [] with
    | [] => (σ, 2, -1, false)
    | k :: r => (readyF (mvF { σ with waits := σ.waits.set i.a r } k.toNat 1) p k, 2, k, false)
  | 13 => (σ, 2, if stk y i.a = stk y i.b then 1 else 0, false)
  | 14 => (setG σ g { y with pc := i.a }, 2, 0, false)
  | 15 => (if stk y i.a = stk y i.b then setG σ g { y with pc := i.c } else σ, 2, 0, false)
  | 16 => (setG σ g { y with count := 256 * i.a + i.b }, 2, 0, false)
  | 17 => (if 0 < y.count then setG σ g { y with count := y.count - 1, pc := i.a } else σ, 2, 0, false)
  | _ => (σ, 2, 0, false)
def toF (σ : MS) (p g : Nat) (x : Prc) (to : Int) : MS :=
  if to = 2 then σ else if to = 1 then readyF (setP (mvF σ g 1) p { x with g := -1 }) p g else setP (mvF σ g to) p { x with g := -1 }
def cmtOf (g : Nat) (y : Gor) (i : In) (v : Int) (ft : Bool) : Cmt := ⟨g, y.f, y.pc, i.op, v, ft⟩
def commitF (σ : MS) (p g : Nat) (x : Prc) (y : Gor) (i : In) : MS :=
  let x1 : Prc := { x with row := x.row + 1 }
  let r := opF (setP (setG σ g y.mv) p x1) p g y.mv i
  let σ2 := toF r.1 p g x1 r.2.1
  { σ2 with commits := σ2.commits ++ [cmtOf g y i r.2.2.1 r.2.2.2] }
end Go.E
end
/- The document's model in memory. -/
set_option linter.unusedVariables false
set_option linter.unusedSimpArgs false
set_option maxRecDepth 10000
noncomputable section
namespace Go.E
open Go Go.Proofs

def cSide (l : List Cmp) : Cmp := ⟨fun w S => Side w S l, Side.fm⟩
/-- Where a goroutine of the model lies. -/
structure GL where
  b : Nat
  a : Option Addr
  c : Nat
def cgC (L : GL) (g : CG) : List Value := [i64 g.st, i64 g.f, i64 g.pc, i64 g.count, .slice L.a (ints g.stack).length L.c]
def cG (L : GL) (g : CG) : Cmp := cSide [cAt L.b (B (cgC L g) 134), cVS 3 L.a L.c (ints g.stack)]
def cGs : List GL → List CG → List Cmp
  | L :: Ls, g :: gs => cG L g :: cGs Ls gs
  | _, _ => []
theorem cGs_get : ∀ {Ls : List GL} {gs : List CG} {i : Nat} {L : GL} {g : CG}, Ls[i]? = some L → gs[i]? = some g → (cGs Ls gs)[i]? = some (cG L g)
  | [], _, _, _, _, h, _ => by simp at h
  | _ :: _, [], _, _, _, _, h => by simp at h
  | L :: Ls, g :: gs, 0, _, _, h, h' => by simp at h h'; subst h h'; rfl
  | L :: Ls, g :: gs, i + 1, _, _, h, h' => by simpa [cGs] using cGs_get (by simpa using h) (by simpa using h')
theorem cGs_set : ∀ {Ls : List GL} {gs : List CG} {i : Nat} {L : GL} {g : CG}, Ls.length = gs.length → Ls[i]? = some L → (cGs Ls gs).set i (cG L g) = cGs Ls (gs.set i g)
  | [], [], _, _, _, _, h => by simp at h
  | L :: Ls, g :: gs, 0, _, _, _, h => by simp at h; subst h; rfl
  | L :: Ls, g :: gs, i + 1, _, _, hl, h => by
    simp only [cGs, List.set_cons_succ]
    rw [cGs_set (by simpa using hl) (by simpa using h)]
theorem cGs_app : ∀ {Ls : List GL} {gs : List CG} {L : GL} {g : CG}, Ls.length = gs.length → cGs (Ls ++ [L]) (gs ++ [g]) = cGs Ls gs ++ [cG L g]
  | [], [], _, _, _ => rfl
  | [], _ :: _, _, _, h => by simp at h
  | _ :: _, [], _, _, h => by simp at h
  | x :: Ls, y :: gs, L, g, h => by
    show cG x y :: cGs (Ls ++ [L]) (gs ++ [g]) = _
    rw [cGs_app (by simpa using h)]
    rfl
/-- One part more. -/
theorem Side.snoc {w : World} {A C : Nat → Prop} {Ps : List Cmp} {c : Cmp} (h : Side w A Ps) (hc : c.P w C) (hd : ∀ y, A y → C y → False) : Side w (fun y => A y ∨ C y) (Ps ++ [c]) := by
  classical
  obtain ⟨col, hs⟩ := h
  refine ⟨fun y => if C y then Ps.length else col y, fun i p hi => ?_⟩
  by_cases hl : i < Ps.length
  · rw [List.getElem?_append_left hl] at hi
    exact p.fm.mono (hs i p hi) fun y _ hy => ⟨.inl hy.1, (if_neg (fun h => hd y hy.1 h)).trans hy.2⟩
  · have hil := (List.getElem?_eq_some_iff.1 hi).1
    simp at hil
    have : i = Ps.length := by omega
    subst this
    rw [List.getElem?_append_right (Nat.le_refl _), Nat.sub_self] at hi
    cases hi
    exact c.fm.mono hc fun y _ hy => ⟨.inr hy, if_pos hy⟩
/-- The model's state. -/
structure XS where
  fs : List (List In)
  nglob : Int
  gs : List CG
  globals : List Int
  objs : List (List Int)
  tim : List (Int × Nat)
  waits : List (List Int)
  clock : Int
structure XL where
  (fa ga la oa ta : Option Addr)
  (fc gc lc oc tc : Nat)
  gl : List GL
  os : List Rw
  ws : List Rw
def tiC (t : Int × Nat) : List Value := [i64 t.1, i64 t.2]
def xC (x : XS) (L : XL) : List Value :=
  [i64 x.nglob, .slice L.fa x.fs.length L.fc, .slice L.ga (pts (L.gl.map (·.b))).length L.gc, .slice L.la (ints x.globals).length L.lc, .slice L.oa (L.os.map Rw.v).length L.oc, .slice L.ta (x.tim.map tiC).length L.tc] ++ L.ws.map Rw.v ++ [i64 x.clock]
/-- The parts: 0 its own cells, 1 the program, 2, 3 the goroutines, 4 the globals, 5 who sleeps, 6, 7 the objects, then who waits. -/
def xP (b : Nat) (x : XS) (L : XL) : List Cmp :=
  [cAt b (B (xC x L) 85), cFn L.fa L.fc x.fs, cVS 135 L.ga L.gc (pts (L.gl.map (·.b))), cSide (cGs L.gl x.gs), cVS 3 L.la L.lc (ints x.globals), cMSl 244 2 L.ta L.tc (x.tim.map tiC), cVS 37 L.oa L.oc (L.os.map Rw.v), cSide (L.os.map cRw)] ++ L.ws.map cRw
structure XLok (x : XS) (L : XL) : Prop where
  gl : L.gl.length = x.gs.length
  ws : L.ws.map (·.l) = x.waits
  os : L.os.map (·.l) = x.objs
  wl : x.waits.length = 32
def XBt (w : World) (S : Nat → Prop) (b : Nat) (x : XS) (gp : List GL) : Prop := ∃ L : XL, XLok x L ∧ L.gl = gp ∧ Side w S (xP b x L)
theorem XBt.fm {b : Nat} {x : XS} {gp : List GL} : Fm (fun w S => XBt w S b x gp) := by
  rintro w w' S S' ⟨L, h1, h2, h⟩ hf
  exact ⟨L, h1, h2, Side.fm w w' S S' h hf⟩
def XAt (w : World) (S : Nat → Prop) (b : Nat) (x : XS) : Prop := ∃ gp, XBt w S b x gp
theorem XAt.fm {b : Nat} {x : XS} : Fm (fun w S => XAt w S b x) := by
  rintro w w' S S' ⟨gp, h⟩ hf
  exact ⟨gp, XBt.fm w w' S S' h hf⟩
end Go.E
end
