/- Who begins others without end. -/
import Derived.Test.YtnbekdcepnfpaaaGreatDoorG40
set_option linter.unusedVariables false
set_option linter.unusedSimpArgs false
set_option maxRecDepth 10000
noncomputable section
namespace Go.E
open Go Go.Proofs

def eachL (k : Nat) : List In := (List.range k).reverse.map (fun i => ⟨4, i, 15, 0⟩) ++ [⟨0, 0, 0, 0⟩]
theorem eachL_succ (k : Nat) : [(⟨4, k, 15, 0⟩ : In)] ++ eachL k = eachL (k + 1) := by
  unfold eachL
  rw [List.range_succ, List.reverse_append]
  simp
theorem eachL_len (k : Nat) : (eachL k).length = k + 1 := by simp [eachL]
theorem great_ok {k : Nat} (hk : k ≤ 4) : ∀ l ∈ greatP k, 1 ≤ l.length ∧ l.length ≤ 64 ∧ ∀ i ∈ l, okB 0 2 l.length i ∧ (i.op = 0 ∨ i.op = 2 ∨ i.op = 4 ∨ i.op = 5 ∨ i.op = 8 ∨ i.op = 9 ∨ i.op = 11 ∨ i.op = 12 ∨ i.op = 14 ∨ i.op = 16 ∨ i.op = 17) := by
  intro l hl
  simp only [greatP, List.mem_cons, List.not_mem_nil, or_false] at hl
  rcases hl with rfl | rfl
  · refine ⟨by simp, by simp, fun i hi => ?_⟩
    simp only [List.mem_cons, List.not_mem_nil, or_false] at hi
    rcases hi with rfl | rfl <;> simp [okB]
  · refine ⟨by simp, by simp; omega, fun i hi => ?_⟩
    simp only [List.mem_append, List.mem_map, List.mem_reverse, List.mem_range, List.mem_cons, List.not_mem_nil, or_false] at hi
    rcases hi with ⟨j, hj, rfl⟩ | rfl
    · simp [okB]; omega
    · simp [okB]
theorem great_good {k : Nat} (hk : k ≤ 4) : GoodP 0 (greatP k) := good_of (by decide) (by simp [greatP]) (fun l hl => ⟨(great_ok hk l hl).1, (great_ok hk l hl).2.1, fun i hi => ((great_ok hk l hl).2.2 i hi).1⟩)
theorem great_plain {k : Nat} (hk : k ≤ 4) : plainP (greatP k) := ⟨by simp [greatP], by simp [greatP], fun l hl i hi => plain_of (great_ok hk l hl).2.1 ((great_ok hk l hl).2.2 i hi).1 ((great_ok hk l hl).2.2 i hi).2⟩
theorem spawned_app (l : List Cmt) (c : Cmt) : spawned (l ++ [c]) = if isSp c = true then spawned l ++ [c.value] else spawned l := by
  unfold spawned
  rw [List.filter_append]
  by_cases h : isSp c = true <;> simp [h]
theorem spawned_len (l : List Cmt) : (spawned l).length ≤ l.length := by unfold spawned; rw [List.length_map]; exact List.length_filter_le _ _
theorem nP_len (P : Cmt → Bool) (l : List Cmt) : nP P l ≤ l.length := List.length_filter_le _ _
/-- Who is begun next has the next number. -/
theorem spawned_next {cs : List Cmt} {i : Nat} {c : Cmt} (h : spawned cs = upTo 1023) (hc : cs[i]? = some c) (hs : isSp c = true) : c.value = (((spawned (cs.take i)).length + 1 : Nat) : Int) := by
  have e : cs = cs.take i ++ [c] ++ cs.drop (i + 1) := by
    rw [← cmts_take hc, List.take_append_drop]
  have h2 : spawned cs = spawned (cs.take i) ++ [c.value] ++ spawned (cs.drop (i + 1)) := by
    conv => lhs; rw [e]
    unfold spawned
    simp [hs]
  have h3 : (spawned cs)[(spawned (cs.take i)).length]? = some c.value := by
    rw [h2, List.getElem?_append_left (by simp), List.getElem?_append_right (Nat.le_refl _), Nat.sub_self]
    rfl
  have hl : (spawned (cs.take i)).length < 1023 := by
    have := (List.getElem?_eq_some_iff.1 h3).1
    rwa [h, upTo_len] at this
  rw [h, upTo_get hl] at h3
  exact (Option.some.inj h3).symm
theorem great_law {ps words : Int} {f1 f2 : Nat} {n : Int} (w : World) : Calls PP 11 #[.agg (cfgV ps words f1 f2).toArray, i64 n] w (fun e w' => e = .returned (.bool true) ∧ Ext w w') := by
  have hu := u64_bd n
  refine calls_sem (fn := Tryz.f11) (args := [_, _]) Tryz.func11 rfl (by simp) (fun R hR => ?_)
  refine SEM.cut (X := Nat × Nat × Nat × XS × MS × WS × Nat) 5 (fun t => [(8, pt t.2.1)])
    (fun t w' => t.1 ≤ 4 ∧ Ext w w' ∧ (∃ S mb xb aa ac, (∀ y, S y → w.heap.size ≤ y) ∧ Side w' S (wP t.2.1 mb xb aa ac t.2.2.2.2.1 t.2.2.2.1 t.2.2.2.2.2.1)) ∧ WRun (LJ gTop gLoc) (greatP t.1) t.2.2.2.2.2.2 t.2.2.2.2.1 t.2.2.2.1 t.2.2.2.2.2.1) rfl ?_ ?_
  · refine RUN.box (fun b2 w1 n1 => ?_)
    refine CVI.mk (IntKind.wrap .u64 n) rfl ?_
    refine ART.urem (by omega) (by omega) (by omega) (fun r1 g1 => ?_)
    refine CVI.i64 (by omega) (fun kk hk => ?_)
    obtain ⟨k, rfl⟩ : ∃ k : Nat, kk = k := ⟨kk.toNat, by omega⟩
    have hk4 : k ≤ 4 := by omega
    clear hk g1 hu
    refine RUN.buildSlice rfl rfl rfl rfl rfl rfl rfl (fun b0 w2 n2 => ?_)
    have z1 := n1.here.lt
    refine LOOP.inv (X := Nat × Option Addr × Nat) (fun t => [(2, pt b2), (5, i64 k), (6, .slice t.2.1 (eachL t.1).length t.2.2), (7, i64 t.1)])
      (fun t w' => t.1 ≤ k ∧ MSl w' (fun y => w1.heap.size ≤ y) 33 4 t.2.1 t.2.2 ((eachL t.1).map inC) ∧ Ext w1 w') (fun t => k - t.1) (0, some ⟨b0, 0, none⟩, 1) ⟨rfl, rfl, rfl, rfl, trivial⟩ ⟨Nat.zero_le _, MSl.lit (l := eachL 0) n2.here (by have := n2.blk; omega) rfl, n2.ext⟩ ?_
    rintro ⟨i, a, c⟩ w3 ⟨hi, m3, x3⟩ j3
    simp only at hi m3
    by_cases hlt : i < k
    · refine CLt.yes (by omega) ?_
      refine RUN.buildSlice rfl rfl rfl rfl rfl rfl rfl (fun be w4 n4 => ?_)
      refine RUN.incat (l := [⟨4, i, 15, 0⟩]) (l2 := eachL i) (MSl.lit (l := [⟨4, i, 15, 0⟩]) (S := fun y => y = be) n4.here rfl rfl) (MSl.fm.ext m3 n4.ext) (by rw [eachL_len]; simp; omega) (fun a' c' v' hv hc => ?_)
      obtain ⟨S', o, q⟩ := hv
      rw [eachL_succ] at q ⊢
      refine ART.add (by omega) (fun r hr => ?_)
      subst hr
      have z := x3.size
      have z4 := n4.ext.size
      have zb := n4.blk
      refine Nxt.mk ((i + 1, a', c')) ?_ ?_ ?_
      · exact ⟨rfl, rfl, rfl, rfl, trivial⟩
      · exact ⟨hlt, MSl.fm.mono q fun y _ hy => by rcases o y hy with h | h <;> omega, (x3.trans' n4.ext).trans hc (fun y hy hh => by omega)⟩
      · show k - (i + 1) < k - i
        omega
    have hik : i = k := by omega
    subst hik
    refine CLt.no (by omega) ?_
    refine DRAW.q 7 [(0, .q), (1, .q), (2, .q), (4, .q), (3, .s), (5, .s), (6, .q)] (by kernel_rfl) (fun _ _ _ _ _ h => h) ?_
    refine RUNQ.lda (vs := cfgV ps words f1 f2) (x3.at n1.here) rfl (Nat.le_of_ble_eq_true rfl) rfl ?_
    intro v1 y1 t1
    refine RUN.buildSlice rfl rfl rfl rfl rfl rfl rfl (fun ba v2 n2' => ?_)
    refine ⟨t1.trans' n2'.ext, ?_⟩
    intro v3 y3 t3
    refine RUN.buildSlice rfl rfl rfl rfl rfl rfl rfl (fun bF v4 n4 => ?_)
    refine ⟨t3.trans' n4.ext, ?_⟩
    refine CALLQ.mk _ rfl (fun w' hs => one_in) ?_
    intro v5 y5
    have gA : At v5 ba (B (([⟨8, 1, 0, 0⟩, ⟨14, 0, 0, 0⟩] : List In).map inC).flatten 33) := y5.at (n4.at (y3.at n2'.here))
    have xF : Ext w v5 := (n1.ext.trans' x3).trans' ((t3.trans' n4.ext).trans' y5)
    have zw := n1.ext.size
    have zF := xF.size
    have b2'' := n2'.blk
    have b4'' := n4.blk
    have zx3 := x3.size
    have zt1 := t1.size
    have zt3 := t3.size
    have hF : FnAt v5 (fun y => w.heap.size ≤ y) (some ⟨bF, 0, none⟩) 2 (greatP i) := FnAt.two (l0 := [⟨8, 1, 0, 0⟩, ⟨14, 0, 0, 0⟩]) (l1 := eachL i) (MSl.lit gA (by omega) rfl) (MSl.fm.mono (MSl.fm.ext m3 ((t3.trans' n4.ext).trans' y5)) fun y _ hy => by omega) (y5.at n4.here) (by omega)
    have hC := new_in (ps := ps) (words := words) (f1 := f1) (f2 := f2) hF (great_good hk4)
    refine CALL.by hC rfl ?_
    rintro e w7 ⟨wb, bs, pct, nn, rfl, hn, hn1, hn2, hp1, hp2, hbl, ⟨mb, xb, aa, ac, q7⟩, c7⟩
    obtain ⟨O, hc0⟩ := wok0 (g := 0) (fs := greatP i) (bs := bs) (ps := fitPs ps) (words := fitWords words) (n := nn) (pct := pct) (f1 := f1) (f2 := f2) (great_plain hk4).len (by omega) (by omega) hbl
    have J : WRun (LJ gTop gLoc) (greatP i) bs.length (σ0 0 (greatP i) bs (fitWords words) nn pct f1 f2) (x0 0 (greatP i)) (ws0 (fitPs ps) (fitWords words) f1 f2) := ⟨O, rfl, by show (bs.map prc0).length = _; simp, by
      rw [hc0]
      refine ⟨rfl, fun _ => rfl, fun c hc => by simp [σ0, spawnF, readyF, ms0] at hc, ⟨_, rfl, rfl, rfl, by simp [byG, σ0, spawnF, readyF, ms0], .inl ⟨rfl, by decide, by simp [core0], rfl⟩⟩, fun g z hg hz => ?_⟩
      rcases g with _ | g
      · omega
      · simp [core0] at hz, by show (0 : Int) ≤ _; decide⟩
    refine RUN.ld (q7.blk 0 rfl) rfl (rfl) ?_
    refine CALL.by (wrun_in q7 J (by omega) (by omega) (Int.le_refl _) (fun s s' h1 h2 => great_step h1 h2) (fun s h1 z h2 h3 => (great_plain hk4).at _ _)) rfl ?_
    rintro e w8 ⟨σ', x', V', rfl, q8, c8, J8, _⟩
    have x07 : Ext w w7 := xF.trans c7 (fun y hy hh => by omega)
    have z07 := x07.size
    have x08 : Ext w w8 := x07.trans c8 (fun y hy hh => by rcases hh with hh | hh <;> omega)
    exact ⟨rfl, (i, wb, mb, x', σ', V', bs.length), ⟨rfl, trivial⟩, hk4, x08, ⟨_, _, _, _, _, fun y hy => by rcases hy with (hy | hy) | hy <;> omega, q8⟩, J8⟩
  rintro ⟨k, wb, _, x', σ', V', nb⟩ w1 ⟨hk4, x01, ⟨S, mb, xb, aa, ac, hSw, q1⟩, J⟩ j1
  simp only at hk4 q1 J
  have hM : MAt w1 S mb σ' := q1.get 1 rfl
  refine SEM.of ?_
  refine RUN.ld (q1.blk 0 rfl) rfl (rfl) ?_
  refine CALL.by (status_in hM) rfl ?_
  rintro e w2 ⟨rfl, x2⟩
  by_cases h0 : statusF σ' = 0
  · refine CEq.yes (h0) ?_
    refine CALL.by (told_in w2) rfl ?_
    rintro e w3 ⟨rfl, x3⟩
    exact hR _ _ ⟨rfl, (x01.trans' x2).trans' x3⟩
  have hall := LJ.st J.p (fun _ _ _ h => gTop_st h) (fun _ _ _ h => gLoc_st h)
  obtain ⟨h1, h5⟩ := done_of J hall h0
  obtain ⟨hgl, hsp, hft, hfl⟩ := great_end J.p h5
  have q2 := Side.fm.ext q1 x2
  refine CEq.no (h0) ?_
  refine RUN.ld (q2.blk 0 rfl) rfl (rfl) ?_
  refine CALL.by (status_in (MAt.fm.ext hM x2)) rfl ?_
  rintro e w3 ⟨rfl, x3⟩
  have q3 := Side.fm.ext q2 x3
  refine CEq.yes (h1) ?_
  have hcml : (σ'.commits.length : Int) ≤ 2 ^ 40 := by have := J.ok.inv.cm; have := J.stb; omega
  refine LOOP.inv (X := Nat) (fun i => [(8, pt wb), (9, i64 (spawned (σ'.commits.take i)).length), (10, i64 (nP isF (σ'.commits.take i))), (11, i64 i)]) (fun i w' => i ≤ σ'.commits.length ∧ Side w' S (wP wb mb xb aa ac σ' x' V') ∧ Ext w w') (fun i => σ'.commits.length - i) 0 ⟨rfl, rfl, rfl, rfl, trivial⟩ ⟨Nat.zero_le _, q3, (x01.trans' x2).trans' x3⟩ ?_
  rintro i w5 ⟨hi, q5, x05⟩ j5
  refine RUN.ld (q5.blk 0 rfl) rfl (rfl) ?_
  refine CALL.by (mcommits_in (q5.get 1 rfl : MAt w5 S mb σ')) rfl ?_
  rintro e w6 ⟨rfl, x6⟩
  have q6 := Side.fm.ext q5 x6
  by_cases hlt : i < σ'.commits.length
  · obtain ⟨c, hc⟩ : ∃ c, σ'.commits[i]? = some c := ⟨_, List.getElem?_eq_getElem hlt⟩
    have hmem := List.mem_of_getElem? hc
    refine CLt.yes ((by omega)) ?_
    refine RUN.ld (q6.blk 0 rfl) rfl (rfl) ?_
    refine CALL.by (mcommit_in (j := i) (q6.get 1 rfl : MAt w6 S mb σ') rfl hc) rfl ?_
    rintro e w7 ⟨rfl, x7⟩
    refine RUN.alloc rfl rfl (fun b12 w8 n8 => ?_)
    refine RUN.sta (vs := cmC c) n8.here rfl (by simp [cmC]) (by simp [cmC, Value.oneCell']) (fun w9 u9 => ?_)
    have x69 : Ext w6 w9 := x7.trans' (n8.ext.trans u9.ch (fun y hy hb => by have := n8.blk; omega))
    have q9 := Side.fm.ext q6 x69
    have g9 := u9.here
    have hts : (σ'.commits.take i).length ≤ σ'.commits.length := by simp; omega
    have hl1 := spawned_len (σ'.commits.take i)
    have hl2 := nP_len isF (σ'.commits.take i)
    have e1 := spawned_app (σ'.commits.take i) c
    have e2 := nP_app isF (σ'.commits.take i) c
    rw [← cmts_take hc] at e1 e2
    refine RUN.ld g9 rfl (show _ = some (i64 c.op) from rfl) ?_
    by_cases h8 : c.op = 8
    · refine CEq.yes (by omega) ?_
      rcases hcf : c.fault with _ | _
      · have hs : isSp c = true := by simp [isSp, h8, hcf]
        have hf : ¬ isF c = true := by simp [isF, hcf]
        rw [if_pos hs] at e1
        rw [if_neg hf] at e2
        have hv := spawned_next hsp hc hs
        refine RUN.ld (v := .bool false) g9 rfl (by show some (Value.bool c.fault) = _; rw [hcf]) ?_
        refine ART.add (by omega) (fun r1 hr1 => ?_)
        refine RUN.ld g9 rfl (show _ = some (i64 c.value) from rfl) ?_
        refine CEq.yes (by omega) ?_
        refine RUN.ld (v := .bool false) g9 rfl (by show some (Value.bool c.fault) = _; rw [hcf]) ?_
        refine ART.add (by omega) (fun r2 hr2 => ?_)
        refine Nxt.mk (i + 1) ?_ ?_ ?_
        · refine ⟨rfl, ?_, ?_, by subst hr2; rfl, trivial⟩
          · show i64 r1 = _
            rw [e1, hr1]; simp
          · rw [e2]; rfl
        · exact ⟨hlt, q9, (x05.trans' x6).trans' x69⟩
        · omega
      · obtain ⟨hg0, _⟩ := hfl c hmem hcf
        have hs : ¬ isSp c = true := by simp [isSp, hcf]
        have hf : isF c = true := by simp [isF, hcf]
        rw [if_neg hs] at e1
        rw [if_pos hf] at e2
        refine RUN.ld (v := .bool true) g9 rfl (by show some (Value.bool c.fault) = _; rw [hcf]) ?_
        refine RUN.ld (v := .bool true) g9 rfl (by show some (Value.bool c.fault) = _; rw [hcf]) ?_
        refine ART.add (by omega) (fun r1 hr1 => ?_)
        refine RUN.ld g9 rfl (show _ = some (i64 c.g) from rfl) ?_
        refine CEq.yes (by omega) ?_
        refine RUN.ld g9 rfl (show _ = some (i64 c.op) from rfl) ?_
        refine CEq.yes (by omega) ?_
        refine ART.add (by omega) (fun r2 hr2 => ?_)
        refine Nxt.mk (i + 1) ?_ ?_ ?_
        · refine ⟨rfl, by rw [e1]; rfl, ?_, by subst hr2; rfl, trivial⟩
          show i64 r1 = _
          rw [e2, hr1]; simp
        · exact ⟨hlt, q9, (x05.trans' x6).trans' x69⟩
        · omega
    · have hcf : c.fault = false := by
        cases h : c.fault with
        | false => rfl
        | true => exact (h8 (hfl c hmem h).2).elim
      have hs : ¬ isSp c = true := by simp [isSp, h8]
      have hf : ¬ isF c = true := by simp [isF, hcf]
      rw [if_neg hs] at e1
      rw [if_neg hf] at e2
      refine CEq.no (by omega) ?_
      refine RUN.ld (v := .bool false) g9 rfl (by show some (Value.bool c.fault) = _; rw [hcf]) ?_
      refine ART.add (by omega) (fun r2 hr2 => ?_)
      refine Nxt.mk (i + 1) ?_ ?_ ?_
      · refine ⟨rfl, by rw [e1]; rfl, by rw [e2]; rfl, by subst hr2; rfl, trivial⟩
      · exact ⟨hlt, q9, (x05.trans' x6).trans' x69⟩
      · omega
  have hil : i = σ'.commits.length := by omega
  subst hil
  refine CLt.no (by omega) ?_
  refine CALL.by (told_in _) rfl ?_
  rintro e w7 ⟨rfl, x7⟩
  rw [List.take_length]
  have q7 := Side.fm.ext q6 x7
  have hX : XAt w7 S xb x' := q7.get 2 rfl
  obtain ⟨gp, L, hL, hgp, sd⟩ := hX
  have hxl : x'.gs.length = 1024 := by
    have : x'.gs = (coreM σ').gs := by rw [← J.ok.sim.core]; rfl
    rw [this]; exact hgl
  refine CEq.yes ((by rw [hsp, upTo_len]; rfl)) ?_
  refine CEq.yes ((by rw [hft]; rfl)) ?_
  refine RUN.ld (q7.blk 0 rfl) rfl (rfl) ?_
  refine RUN.ld (sd.blk 0 rfl) rfl (rfl) ?_
  refine LEN.mk 1024 (by simp [pts, hL.gl, hxl]) ?_
  refine CEq.yes (rfl) ?_
  exact hR _ _ ⟨rfl, (x05.trans' x6).trans' x7⟩
end Go.E
end
