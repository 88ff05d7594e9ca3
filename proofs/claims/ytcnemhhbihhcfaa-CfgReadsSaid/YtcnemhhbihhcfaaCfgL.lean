/-
  The law CfgSame, walked.
-/
import Derived.Test.YtcnemhhbihhcfaaCfgK
namespace Go.Proofs.Ytcnemhhbihhcfaa
open Go.RowKit
set_option linter.unusedVariables false

theorem tenSize : (Try.prog.info? 30).map (·.size) = some 33 := by kernel_rfl
theorem load_ten {W : World} {b : Nat} {CA : Array Value} (h : W.heap[b]? = some (.cells CA 30 (0, 0))) (hc : CA.size = 33) :
    (Instr.loadAt 30 (.pointer (some ⟨b, 0, none⟩))).run Try.prog W = .ok (.agg CA) W := by
  simp only [Instr.loadAt, Instr.sureAddr, Sem.run_bind, Sem.run_pure, Result.andThen_ok]
  exact run_loadVar_row W b _ _ CA (0, 0) _ h Try.underlying30 rfl (by rw [tenSize, hc])

/-- A tenant loaded: under a name of its own, which the walk does not lay open. -/
def tenLoad (v : Value) : Sem Value := Instr.loadAt 30 v
@[go_sem ↓] theorem load_fold (v : Value) : Instr.loadAt 30 v = tenLoad v := rfl
theorem tenLoad_run {W : World} {b : Nat} {CA : Array Value} (h : W.heap[b]? = some (.cells CA 30 (0, 0))) (hc : CA.size = 33) : (tenLoad (.pointer (some ⟨b, 0, none⟩))).run Try.prog W = .ok (.agg CA) W := load_ten h hc

set_option maxRecDepth 100000 in
set_option maxHeartbeats 1000000 in
theorem cfgSame_walk {S S' : Nat → Prop} {w : World} (a b : Ten) (va vb : Value) (ha : TenV S w a va) (hb : TenV S' w b vb) :
    Calls Try.prog 3 #[va, vb] w fun e w' => e = .returned (.bool true) ∧ Mod No w w' := by
  have hA1 := ha.mono (S' := fun i => S i ∧ i < w.heap.size) (fun i hi hs => ⟨hs, hi⟩)
  have hB1 := hb.mono (S' := fun i => S' i ∧ i < w.heap.size) (fun i hi hs => ⟨hs, hi⟩)
  obtain ⟨P, p, Q, q, R, r, rfl, h1, h2, h3⟩ := ha.val
  obtain ⟨P', p', Q', q', R', r', rfl, h1', h2', h3'⟩ := hb.val
  obtain ⟨va, hva⟩ : ∃ va, va = Value.agg (a.cells (.slice P a.pool.length p) (.slice Q a.statics.length q) (.slice R a.twices.length r)) := ⟨_, rfl⟩
  obtain ⟨vb, hvb⟩ : ∃ vb, vb = Value.agg (b.cells (.slice P' b.pool.length p') (.slice Q' b.statics.length q') (.slice R' b.twices.length r')) := ⟨_, rfl⟩
  have hLA : ∀ W, Mod No w W → Calls Try.prog 10 #[Value.agg (a.cells (.slice P a.pool.length p) (.slice Q a.statics.length q) (.slice R a.twices.length r))] W fun e w' => e = .returned (.bool (light a)) ∧ Mod No W w' := fun W hW => light_ok a _ (hA1.keeps (hW.keeps (fun _ _ _ f => f)))
  have hLB : ∀ W, Mod No w W → Calls Try.prog 10 #[Value.agg (b.cells (.slice P' b.pool.length p') (.slice Q' b.statics.length q') (.slice R' b.twices.length r'))] W fun e w' => e = .returned (.bool (light b)) ∧ Mod No W w' := fun W hW => light_ok b _ (hB1.keeps (hW.keeps (fun _ _ _ f => f)))
  obtain ⟨CA, hCA⟩ : ∃ CA, CA = a.cells (.slice P a.pool.length p) (.slice Q a.statics.length q) (.slice R a.twices.length r) := ⟨_, rfl⟩
  obtain ⟨CB, hCB⟩ : ∃ CB, CB = b.cells (.slice P' b.pool.length p') (.slice Q' b.statics.length q') (.slice R' b.twices.length r') := ⟨_, rfl⟩
  have bA := box_ten CA (by rw [hCA]; rfl)
  have bB := box_ten CB (by rw [hCB]; rfl)
  have sA : CA.size = 33 := by rw [hCA]; rfl
  have sB : CB.size = 33 := by rw [hCB]; rfl
  have hSS : light a = true → ∀ W, Mod No w W → (Calls Try.prog 11 #[.agg CA, .agg CB] W fun e w' => e = .returned (.bool (decide (a = b))) ∧ Mod No W w') ∧ (Calls Try.prog 12 #[.agg CA, .agg CB] W fun e w' => e = .returned (.bool (decide (a = b))) ∧ Mod No W w') ∧ (Calls Try.prog 11 #[.agg CA, .agg CA] W fun e w' => e = .returned (.bool true) ∧ Mod No W w') := by
    intro hl W hW
    simp only [light, Bool.and_eq_true, decide_eq_true_eq] at hl
    have kA := hA1.keeps (hW.keeps (fun _ _ _ f => f))
    have kB := hB1.keeps (hW.keeps (fun _ _ _ f => f))
    rw [hCA, hCB]
    refine ⟨same_ok a b _ _ kA kB (by omega) (by omega) (by omega), tenant_ok a b _ _ kA kB (by omega) (by omega) (by omega), ?_⟩
    have h := same_ok a a _ _ kA kA (by omega) (by omega) (by omega)
    rw [decide_eq_true rfl] at h
    exact h
  have hload : ∀ (W : World), Mod No ((w.alloc (.cells CA 30)).alloc (.cells CB 30)) W → W.heap[w.heap.size]? = some (.cells CA 30 (0, 0)) ∧ W.heap[w.heap.size + 1]? = some (.cells CB 30 (0, 0)) := fun W hW => ⟨hW.obj (at20 w _ _) id, hW.obj (at21 w _ _) id⟩
  rw [← hCA] at hLA
  rw [← hCB] at hLB
  rw [← hCA, ← hCB]
  obtain ⟨la, hla⟩ : ∃ la, la = light a := ⟨_, rfl⟩
  obtain ⟨lb, hlb⟩ : ∃ lb, lb = light b := ⟨_, rfl⟩
  obtain ⟨e, he⟩ : ∃ e, e = decide (a = b) := ⟨_, rfl⟩
  rw [← hla] at hLA hSS
  rw [← hlb] at hLB
  rw [← he] at hSS
  have HLA := Lib.hid hLA
  have HLB := Lib.hid hLB
  have HSS := Lib.hid hSS
  have HL := Lib.hid hload
  have hm0 : Mod No w ((w.alloc (.cells CA 30)).alloc (.cells CB 30)) := ((Mod.refl _ _).alloc _).alloc _
  have HM0 := Lib.hid hm0
  have HK := Lib.hid known_ok
  have HSZ := Lib.hid (And.intro sA sB)
  have HCE := Lib.hid (And.intro hCA hCB)
  clear ha hb hA1 hB1 h1 h2 h3 h1' h2' h3' hva hvb hLA hLB hCA hCB hSS hload hla hlb he hm0 sA sB
  clear va vb
  go_enter Try.func3, Try.ntmps3
  go_upto_region 3 with (first | (go_at_call 9; refine (HK.out _).mono ?_; rintro e2 w2 ⟨rfl, hm2⟩; have H2 := Lib.hid hm2; clear hm2) | fail)
  refine wp_region_lit ?_
  have hmw2 := HM0.out.trans H2.out
  refine step_val (v := .agg CA) (w' := w2) (want_none rfl) (load_op (by rfl) (load_ten (HL.out _ H2.out).1 HSZ.out.1)) ?_
  simp only [Act.put, List.setIfInBounds_toArray, List.set_cons_zero, List.set_cons_succ]
  refine step_calls (R := fun v w' => v = .bool la ∧ Mod No w2 w') (want_none rfl) (call_op (fun _ => rfl) (by simp only [List.map_toArray, List.map_cons, List.map_nil]; rfl) (fun a W => by go_simp)) ((HLA.out _ hmw2).mono fun e w' ⟨h1, h2⟩ => ⟨_, h1, rfl, h2⟩) ?_
  rintro v w3 ⟨rfl, hm3⟩
  simp only [Act.put, List.setIfInBounds_toArray, List.set_cons_zero, List.set_cons_succ]
  cases la
  · refine step_val (v := .bool true) (w' := w3) (want_none rfl) rfl ?_
    simp only [Act.put, List.setIfInBounds_toArray, List.set_cons_zero, List.set_cons_succ]
    refine step_val (v := .bool true) (w' := w3) (want_none rfl) rfl ?_
    simp only [Act.put, List.setIfInBounds_toArray, List.set_cons_zero, List.set_cons_succ]
    refine step_skip rfl ?_
    refine step_skip rfl ?_
    refine step_skip rfl ?_
    simp only [Act.put, List.setIfInBounds_toArray, List.set_cons_zero, List.set_cons_succ]
    refine step_val (v := .bool true) (w' := w3) (want_none rfl) rfl ?_
    refine wpList_nil ?_
    simp only [Act.put, List.setIfInBounds_toArray, List.set_cons_zero, List.set_cons_succ]
    go_wp2
    go_ret
    exact ⟨rfl, hmw2.trans hm3⟩
  · have hmw3 := hmw2.trans hm3
    refine step_val (v := .bool false) (w' := w3) (want_none rfl) rfl ?_
    simp only [Act.put, List.setIfInBounds_toArray, List.set_cons_zero, List.set_cons_succ]
    refine step_val (v := .bool false) (w' := w3) (want_none rfl) rfl ?_
    simp only [Act.put, List.setIfInBounds_toArray, List.set_cons_zero, List.set_cons_succ]
    refine step_val (v := .agg CB) (w' := w3) rfl (load_op (by rfl) (load_ten (HL.out _ (H2.out.trans hm3)).2 HSZ.out.2)) ?_
    simp only [Act.put, List.setIfInBounds_toArray, List.set_cons_zero, List.set_cons_succ]
    refine step_calls (R := fun v w' => v = .bool lb ∧ Mod No w3 w') rfl (call_op (fun _ => rfl) (by simp only [List.map_toArray, List.map_cons, List.map_nil]; rfl) (fun a W => by go_simp)) ((HLB.out _ hmw3).mono fun e w' ⟨h1, h2⟩ => ⟨_, h1, rfl, h2⟩) ?_
    rintro v w4 ⟨rfl, hm4⟩
    simp only [Act.put, List.setIfInBounds_toArray, List.set_cons_zero, List.set_cons_succ]
    cases lb
    · refine step_val (v := .bool true) (w' := w4) rfl rfl ?_
      simp only [Act.put, List.setIfInBounds_toArray, List.set_cons_zero, List.set_cons_succ]
      refine step_val (v := .bool true) (w' := w4) (want_none rfl) rfl ?_
      refine wpList_nil ?_
      simp only [Act.put, List.setIfInBounds_toArray, List.set_cons_zero, List.set_cons_succ]
      go_wp2
      go_ret
      exact ⟨rfl, hmw3.trans hm4⟩
    refine step_val (v := .bool false) (w' := w4) rfl rfl ?_
    simp only [Act.put, List.setIfInBounds_toArray, List.set_cons_zero, List.set_cons_succ]
    refine step_val (v := .bool false) (w' := w4) (want_none rfl) rfl ?_
    refine wpList_nil ?_
    simp only [Act.put, List.setIfInBounds_toArray, List.set_cons_zero, List.set_cons_succ]
    have HW4 := Lib.hid (And.intro (hmw3.trans hm4) ((H2.out.trans hm3).trans hm4))
    clear hmw2 hm3 hmw3 hm4
    go_upto_region 5 with fail
    have hS0 : ∀ W, Mod No w4 W → (tenLoad (.pointer (some ⟨w.heap.size, 0, none⟩))).run Try.prog W = .ok (.agg CA) W ∧ (tenLoad (.pointer (some ⟨w.heap.size + 1, 0, none⟩))).run Try.prog W = .ok (.agg CB) W := fun W hW =>
      ⟨tenLoad_run (HL.out W (HW4.out.2.trans hW)).1 HSZ.out.1, tenLoad_run (HL.out W (HW4.out.2.trans hW)).2 HSZ.out.2⟩
    have hC0 := fun W (hW : Mod No w4 W) => HSS.out rfl W (HW4.out.1.trans hW)
    have HS := Lib.hid hS0
    have HC := Lib.hid hC0
    clear hS0 hC0 HSS HCE HL HM0 HK HSZ
    go_region_held3 (fun W => (tenLoad (.pointer (some ⟨w.heap.size, 0, none⟩))).run Try.prog W = .ok (.agg CA) W ∧ (tenLoad (.pointer (some ⟨w.heap.size + 1, 0, none⟩))).run Try.prog W = .ok (.agg CB) W)
      ((refine HS.out _ ?_; repeat (first | with_reducible exact Mod.refl _ _ | with_reducible exact hz3 | with_reducible exact hz2 | with_reducible exact hz1 | refine Mod.alloc ?_ _ | refine Mod.drew ?_)))
      (first
        | (go_at_call 11; have gd1 := hz1; have gd2 := hz2; clear gd1 gd2; refine (HC.out _ ?_).2.2.mono ?_; (repeat (first | with_reducible exact Mod.refl _ _ | with_reducible exact hz2 | with_reducible exact hz1 | refine Mod.alloc ?_ _ | refine Mod.drew ?_)); rintro e3 w7 ⟨rfl, hm7⟩; have hz3 : Mod No w4 w7 := Mod.trans (by (repeat (first | with_reducible exact Mod.refl _ _ | with_reducible exact hz2 | with_reducible exact hz1 | refine Mod.alloc ?_ _ | refine Mod.drew ?_))) hm7)
        | (go_at_call 11; refine (HC.out _ ?_).1.mono ?_; (repeat (first | with_reducible exact Mod.refl _ _ | with_reducible exact hz2 | with_reducible exact hz1 | refine Mod.alloc ?_ _ | refine Mod.drew ?_)); rintro e1 w5 ⟨rfl, hm5⟩; have hz1 : Mod No w4 w5 := Mod.trans (by (repeat (first | with_reducible exact Mod.refl _ _ | with_reducible exact hz2 | with_reducible exact hz1 | refine Mod.alloc ?_ _ | refine Mod.drew ?_))) hm5)
        | (go_at_call 12; refine (HC.out _ ?_).2.1.mono ?_; (repeat (first | with_reducible exact Mod.refl _ _ | with_reducible exact hz2 | with_reducible exact hz1 | refine Mod.alloc ?_ _ | refine Mod.drew ?_)); rintro e2 w6 ⟨rfl, hm6⟩; have hz2 : Mod No w4 w6 := Mod.trans (by (repeat (first | with_reducible exact Mod.refl _ _ | with_reducible exact hz2 | with_reducible exact hz1 | refine Mod.alloc ?_ _ | refine Mod.drew ?_))) hm6))
    all_goals
      go_wp2
      go_ret
      exact ⟨by simp, HW4.out.1.trans hz3⟩

end Go.Proofs.Ytcnemhhbihhcfaa
