/- From what a law's call answers to its row and its card. -/
import Derived.Test.YtnbekdcepnfpaaaGreatDoorRows
import Derived.Test.YtnbekdcepnfpaaaGreatDoorTie
import Derived.Test.YtnbekdcepnfpaaaGreatDoorCards
import Derived.ChangeSame
import Derived.ChangeVars
import Derived.JoinedOf
import Derived.RowKit
import Derived.RowKitTokens
import Derived.LaidLaws
import Derived.LaidHandle
import Derived.LaidMore
import Derived.ProofKit
import Derived.OpenShut
import Derived.Stop.Joined
import Derived.Lib.SmallJoins
import Derived.Laws.Cover2
import Derived.SevenTiedAt
import Derived.Deep.Onto
import Derived.Test.YtnbekdcepnfpaaaGreatDoorG02
set_option linter.unusedVariables false
set_option linter.unusedSimpArgs false
set_option maxRecDepth 100000
noncomputable section
namespace Go.E
open Go Go.Proofs Go.ChangeShapes Go.WideShapes Go.RowKit

theorem own : ownKnob PP.godebug = none := by kernel_rfl
def laidL : List (String × DataW Unit) := [("math/bits.deBruijn64tab", YtnbekdcepnfpaaaGreatDoor.Rows.laid_math_bits_deBruijn64tab)]
theorem door_met (os : Os) (args : Array Value) : laidMetH PP laidL ((World.doorLaid PP 14 os).forCall (fun _ _ => 0) ⟨#[], args, []⟩).memory :=
  laidMetH_of_parts3 (fuel := 8) (laidMet_of_run' 8 (by kernel_rfl) (by kernel_rfl)) (by kernel_rfl) (by kernel_rfl)
theorem u3 : PP.underlying 3 = some (.int .i64) := by kernel_rfl
theorem u4 : PP.underlying 4 = some .bool := by kernel_rfl
theorem u22 : PP.underlying 22 = some (.float .f64) := by kernel_rfl
theorem c3' : PP.cellsOf 3 = 1 := by kernel_rfl
theorem c22' : PP.cellsOf 22 = 1 := by kernel_rfl
theorem c24' : PP.cellsOf 24 = 4 := by kernel_rfl
def fieldsOf : Option TypeDesc → List (Nat × Nat)
  | some (.struct fs) => fs.toList.map fun f => (f.type, f.offset)
  | _ => []
theorem u24a : fieldsOf (PP.underlying 24) = [(3, 0), (3, 1), (22, 2), (22, 3)] := by kernel_rfl
theorem u24 : ∃ f0 f1 f2 f3 : Field, PP.underlying 24 = some (.struct #[f0, f1, f2, f3]) ∧ (f0.type = 3 ∧ f0.offset = 0) ∧ (f1.type = 3 ∧ f1.offset = 1) ∧ (f2.type = 22 ∧ f2.offset = 2) ∧ (f3.type = 22 ∧ f3.offset = 3) := by
  have h := u24a
  revert h
  generalize PP.underlying 24 = d
  intro h
  have hd : ∃ l : List Field, d = some (.struct ⟨l⟩) := by
    cases d with
    | none => simp [fieldsOf] at h
    | some t =>
      cases t with
      | struct fs => exact ⟨fs.toList, by simp⟩
      | _ => simp [fieldsOf] at h
  obtain ⟨l, rfl⟩ := hd
  rcases l with _ | ⟨f0, _ | ⟨f1, _ | ⟨f2, _ | ⟨f3, _ | ⟨f4, l⟩⟩⟩⟩⟩ <;> simp [fieldsOf] at h
  exact ⟨f0, f1, f2, f3, rfl, h.1, h.2.1, h.2.2.1, h.2.2.2⟩
section
variable {H : Type} {enc : TypeId × Value → H} {w : World} {base : Nat} {spare : Nat → Bool} {held : Bool}
theorem trod_flt {fuel : Nat} {cs : List Value} {x : DataW H × List MemPlace} (h : DataW.trod enc PP w base spare held fuel 22 cs = some x) : ∃ b, cs = [.float .f64 b] ∧ x = (.lit (.float .f64 b), []) ∧ (Lit.float .f64 b).wf = true := by
  cases fuel with
  | zero => simp [DataW.trod] at h
  | succ n =>
    unfold DataW.trod at h
    rw [u22] at h
    split at h <;> simp_all
theorem trod_flt_mk {b : Nat} (m : Nat) (hw : (Lit.float .f64 b).wf = true) : DataW.trod enc PP w base spare held (m + 1) 22 [.float .f64 b] = some (.lit (.float .f64 b), []) := by
  simp [DataW.trod, u22, hw]
/-- A configuration, opened and shut. -/
theorem open_cfg {W : World} {r : Reach} {b0 : Nat} {v : Value} {d : DataW H} {p : List MemPlace} (hv : Value.okWide PP W r b0 24 v) (h : DataW.Trod enc PP W base spare held 24 v d p) :
    ∃ (a b : Int) (f g : Nat), v = .agg #[.int .i64 a, .int .i64 b, .float .f64 f, .float .f64 g] ∧ p = [] ∧ ∀ (W' : World) (base' : Nat) (spare' : Nat → Bool) (held' : Bool), DataW.Trod enc PP W' base' spare' held' 24 v d [] := by
  obtain ⟨f0, f1, f2, f3, hu, ⟨t0, o0⟩, ⟨t1, o1⟩, ⟨t2, o2⟩, ⟨t3, o3⟩⟩ := u24
  obtain ⟨cs, rfl, hsz⟩ := okWide_struct hu hv
  obtain ⟨c0, c1, c2, c3, rfl⟩ := Go.Joins.array4 (hsz.trans c24')
  obtain ⟨fuel, hf⟩ := h
  obtain ⟨y0, y1, y2, y3, n, hx, _, h0, h1, h2, h3⟩ := Go.Joins.trod_struct4 hu hf
  rw [t0, o0, c3'] at h0
  rw [t1, o1, c3'] at h1
  rw [t2, o2, c22'] at h2
  rw [t3, o3, c22'] at h3
  obtain ⟨a, e0, rfl, w0⟩ := DataW.trod_int u3 h0
  obtain ⟨b, e1, rfl, w1⟩ := DataW.trod_int u3 h1
  obtain ⟨f, e2, rfl, w2⟩ := trod_flt h2
  obtain ⟨g, e3, rfl, w3⟩ := trod_flt h3
  simp [Value.cells] at e0 e1 e2 e3
  subst e0 e1 e2 e3
  simp only [Prod.mk.injEq] at hx
  obtain ⟨rfl, rfl⟩ := hx
  refine ⟨a, b, f, g, rfl, rfl, fun W' base' spare' held' => ⟨2, ?_⟩⟩
  have := Go.Joins.trod_struct4_mk (enc := enc) (w := W') (base := base') (spare := spare') (held := held') (n := 1) (cs := [.int .i64 a, .int .i64 b, .float .f64 f, .float .f64 g]) (y0 := (.lit (.int .i64 a), [])) (y1 := (.lit (.int .i64 b), [])) (y2 := (.lit (.float .f64 f), [])) (y3 := (.lit (.float .f64 g), [])) hu (by rw [c24']; rfl)
    (by rw [t0, o0, c3']; exact trod_int_mk 0 u3 w0) (by rw [t1, o1, c3']; exact trod_int_mk 0 u3 w1) (by rw [t2, o2, c22']; exact trod_flt_mk 0 w2) (by rw [t3, o3, c22']; exact trod_flt_mk 0 w3)
  exact this
end
theorem Ext.kept {w w' : World} (h : Ext w w') (may : MemPlace → Prop) : w.keptBut w' may :=
  World.keptBut.congr (World.keptBut_refl w may) h.os h.output (fun i hi => h.old i hi id)
/-- A law of a configuration and a number. -/
def spec2 (nm : String) : ChangeSpec := { name := nm, fn := fun _ => fun
  | [d1, d2] => { results := [.lit (.bool true)], args := [d1, d2] }
  | _ => YtnbekdcepnfpaaaGreatDoor.Rows.none }
def spec3 (nm : String) : ChangeSpec := { name := nm, fn := fun _ => fun
  | [d1, d2, d3] => { results := [.lit (.bool true)], args := [d1, d2, d3] }
  | _ => YtnbekdcepnfpaaaGreatDoor.Rows.none }
def Law2 (f : Nat) : Prop := ∀ (a b : Int) (p q : Nat) (n : Int) (w : World), Calls PP f #[.agg #[.int .i64 a, .int .i64 b, .float .f64 p, .float .f64 q], .int .i64 n] w (fun e w' => e = .returned (.bool true) ∧ Ext w w')
def Law3 (f : Nat) : Prop := ∀ (a b : Int) (p q : Nat) (n m : Int) (w : World), Calls PP f #[.agg #[.int .i64 a, .int .i64 b, .float .f64 p, .float .f64 q], .int .i64 n, .int .i64 m] w (fun e w' => e = .returned (.bool true) ∧ Ext w w')
section
variable {H : Type} {enc : TypeId × Value → H}
theorem post2 {f : Nat} {fn : Func} {nm : String} (law : Law2 f) (hp : fn.params = #[24, 3]) (hr : fn.resultTypes = #[4]) {W : World} {base : Nat} {args : Array Value} {ds gs : List (DataW H)} {before : List MemPlace}
    (hval : ∀ (j : Nat) t v, fn.params[j]? = some t → args[j]? = some v → Value.okWide PP W .any base t v) (hW : DataW.Whole enc PP fn.params.toList (spec2 nm).vars false W args.toList ds gs before) :
    Calls PP f args W fun e W' => ∃ v, e = .returned v ∧ (spec2 nm).post enc PP fn false true false false W args v W' := by
  have hW' := hW
  obtain ⟨p, q, hA0, hV, rfl, hfz, hnd⟩ := hW
  have hA : DataW.TrodAll enc PP W 0 (fun _ => true) true fn.params.toList args.toList ds p := hA0
  rw [hp] at hA hval
  obtain ⟨v0, v1, d0, d1, p0, p1, rfl, rfl, rfl, h0, h1⟩ := trodAll_two hA
  obtain ⟨rfl, rfl⟩ := trodVars_none hV
  obtain ⟨n, rfl, rfl, rfl, hwn⟩ := open_int u3 (hval 1 3 v1 rfl rfl) h1
  obtain ⟨a, b, x, y, rfl, rfl, hcfg⟩ := open_cfg (hval 0 24 v0 rfl rfl) h0
  refine (law a b x y n W).mono fun e W' ⟨he, hx⟩ => ?_
  subst he
  refine ⟨_, rfl, _, _, _, [], [], [], hW', ?_, ?_, rfl, hx.kept _, fun h => by cases h⟩
  · rw [hr]; exact trodAll_mk1 (shut_bool u4 true)
  · rw [hp]; exact trodAll_mk2 (hcfg _ _ _ _) (shut_int u3 hwn)
theorem post3 {f : Nat} {fn : Func} {nm : String} (law : Law3 f) (hp : fn.params = #[24, 3, 3]) (hr : fn.resultTypes = #[4]) {W : World} {base : Nat} {args : Array Value} {ds gs : List (DataW H)} {before : List MemPlace}
    (hval : ∀ (j : Nat) t v, fn.params[j]? = some t → args[j]? = some v → Value.okWide PP W .any base t v) (hW : DataW.Whole enc PP fn.params.toList (spec3 nm).vars false W args.toList ds gs before) :
    Calls PP f args W fun e W' => ∃ v, e = .returned v ∧ (spec3 nm).post enc PP fn false true false false W args v W' := by
  have hW' := hW
  obtain ⟨p, q, hA0, hV, rfl, hfz, hnd⟩ := hW
  have hA : DataW.TrodAll enc PP W 0 (fun _ => true) true fn.params.toList args.toList ds p := hA0
  rw [hp] at hA hval
  obtain ⟨v0, v1, v2, d0, d1, d2, p0, p1, p2, rfl, rfl, rfl, h0, h1, h2⟩ := trodAll_three hA
  obtain ⟨rfl, rfl⟩ := trodVars_none hV
  obtain ⟨n, rfl, rfl, rfl, hwn⟩ := open_int u3 (hval 1 3 v1 rfl rfl) h1
  obtain ⟨m, rfl, rfl, rfl, hwm⟩ := open_int u3 (hval 2 3 v2 rfl rfl) h2
  obtain ⟨a, b, x, y, rfl, rfl, hcfg⟩ := open_cfg (hval 0 24 v0 rfl rfl) h0
  refine (law a b x y n m W).mono fun e W' ⟨he, hx⟩ => ?_
  subst he
  refine ⟨_, rfl, _, _, _, [], [], [], hW', ?_, ?_, rfl, hx.kept _, fun h => by cases h⟩
  · rw [hr]; exact trodAll_mk1 (shut_bool u4 true)
  · rw [hp]; exact trodAll_mk3 (hcfg _ _ _ _) (shut_int u3 hwn) (shut_int u3 hwm)
end
end Go.E
end
