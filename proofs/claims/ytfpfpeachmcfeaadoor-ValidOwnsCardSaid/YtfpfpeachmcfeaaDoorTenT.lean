/-
  valid.Tenant's rules: Tenant$1.
-/
import Derived.Test.YtfpfpeachmcfeaaDoorTenS
import Derived.Deep.CutBlock
import Derived.Deep.DeepCutAuto
namespace Go.Proofs.YtfpfpeachmcfeaaDoor
open Go.RowKit
set_option linter.unusedVariables false
set_option linter.unusedSimpArgs false
attribute [local go_sem ↓] Go.wp_at_zero Go.wp_at_succ
attribute [local go_sem] run_store_func

def zeroIn (t : Ten) : Bool := decide (0 ∈ lefts t.statics ++ rights t.statics ++ lefts t.twices ++ rights t.twices)
def badRules (t : Ten) : Bool := decide (16 < t.statics.length) || decide (16 < t.twices.length) || zeroIn t || !decide (lefts t.statics).Nodup || !decide (rights t.statics).Nodup || !decide (lefts t.twices).Nodup || !decide (rights t.twices).Nodup
  || (rights t.statics).any (fun y => decide (y ∈ t.pool)) || (lefts t.twices).any (fun y => decide (y ∈ t.pool) || decide (y ∈ rights t.statics))
theorem Held.lists {g : Nat} {x : TV} {w : World} (h : Held g x w) : ∃ Q q R r, w.cell? ⟨g, 27, none⟩ = some (.slice Q x.t.statics.length q) ∧ w.cell? ⟨g, 28, none⟩ = some (.slice R x.t.twices.length r) ∧
    RowAt (fun b => b < w.heap.size) w Q (prCells x.t.statics) ∧ RowAt (fun b => b < w.heap.size) w R (prCells x.t.twices) := by
  obtain ⟨P, p, Q, q, R, r, e1, e2, e3, r1, r2, r3⟩ := h.rows
  exact ⟨Q, q, R, r, (blk_cell h.blk 27).trans (by rw [← e2]; rfl), (blk_cell h.blk 28).trans (by rw [← e3]; rfl), r2, r3⟩
theorem own_row {base : Nat} {w : World} {A : Option Addr} {n c : Nat} {l : List Nat} (h : OwnN base w (.slice A n c) l) : n = l.length ∧ RowAt (fun b => b < w.heap.size) w A (numCells l) := by
  obtain ⟨A', c', e, _, hr⟩ := h.open
  obtain ⟨e1, e2, e3⟩ := Value.slice.inj e
  subst e1
  exact ⟨e2, hr.mono (fun b hb _ => hb)⟩
set_option maxRecDepth 100000 in
set_option maxHeartbeats 4000000 in
theorem rulesC_ok {g : Nat} {x : TV} {w : World} (h : Held g x w) (hp : x.t.pool.length ≤ 1000000) (hs : x.t.statics.length ≤ 12) (ht : x.t.twices.length ≤ 12) :
    Calls Tryd.prog 36 #[.pointer (some ⟨g, 0, none⟩)] w (Says (badRules x.t) w) := by
  obtain ⟨Q, q, R, r, c27, c28, hQ, hR⟩ := h.lists
  obtain ⟨n1, hn1⟩ : ∃ n, n = x.t.statics.length := ⟨_, rfl⟩
  obtain ⟨n2, hn2⟩ : ∃ n, n = x.t.twices.length := ⟨_, rfl⟩
  have H1 := Lib.hid (fun (W : World) (hW : Mod No w W) => sides_ok (c := q) x.t.statics (hQ.keeps (hW.keeps (fun _ _ _ f => f))) hn1 (by omega))
  have H2 := Lib.hid (fun (W : World) (hW : Mod No w W) => sides_ok (c := r) x.t.twices (hR.keeps (hW.keeps (fun _ _ _ f => f))) hn2 (by omega))
  rw [← hn1] at c27
  rw [← hn2] at c28
  obtain ⟨B0, hB0⟩ : ∃ B, B = badRules x.t := ⟨_, rfl⟩
  rw [← hB0]
  have H0 := Lib.hid (And.intro h (And.intro hp (And.intro hn1 (And.intro hn2 hB0))))
  rw [← hn1] at hs
  rw [← hn2] at ht
  clear hQ hR h hp hn1 hn2 hB0
  unfold Says
  go_enter Tryd.func36, Tryd.ntmps36
  go_upto_region 2 with (go_at_call 37; refine (H1.out w (Mod.refl _ _)).mono ?_; rintro e w1 ⟨va, vb, rfl, oa, ob, hm⟩; obtain ⟨A, ca, rfl, _, _⟩ := oa.open; obtain ⟨B, cb, rfl, _, _⟩ := ob.open; rw [lefts_len, ← H0.out.2.2.1] at oa; rw [rights_len, ← H0.out.2.2.1] at ob; rw [lefts_len, rights_len, ← H0.out.2.2.1]; have HA := Lib.hid (And.intro oa (And.intro ob hm)); clear oa ob hm)
  refine grab_w fun V1 hV1 => ?_
  have mV1 : Mod No w1 V1 := by rw [hV1]; exact (Mod.refl _ _).alloc _
  have cb1 : V1.cell? ⟨w1.heap.size, 0, none⟩ = some (.slice B n1 cb) := by rw [hV1]; exact (blk_cell (at10 _ _) 0).trans rfl
  have d28 := (HA.out.2.2.trans mV1).cell c28 (fun f => f)
  have HM1 := Lib.hid mV1
  clear c27 c28 hV1 mV1
  obtain ⟨gb, hgb⟩ : ∃ gb, gb = w1.heap.size := ⟨_, rfl⟩
  rw [← hgb] at cb1 ⊢
  clear hgb
  go_upto_region 3 with (go_at_call 37; refine (H2.out V1 (HA.out.2.2.trans HM1.out)).mono ?_; rintro e w2 ⟨vc, vd, rfl, oc, od, hm⟩; obtain ⟨C, cc, rfl, _, _⟩ := oc.open; obtain ⟨D, cd, rfl, _, _⟩ := od.open; rw [lefts_len, ← H0.out.2.2.2.1] at oc; rw [rights_len, ← H0.out.2.2.2.1] at od; rw [lefts_len, rights_len, ← H0.out.2.2.2.1]; have HB := Lib.hid (And.intro oc (And.intro od hm)); clear oc od hm)
  have cb2 := HB.out.2.2.cell cb1 (fun f => f)
  have m02 : Mod No w w2 := (HA.out.2.2.trans HM1.out).trans HB.out.2.2
  have hra : RowAt (fun b => b < w2.heap.size) w2 A (numCells (lefts x.t.statics)) := ((own_row HA.out.1).2.keeps ((HM1.out.trans HB.out.2.2).keeps (fun _ _ _ f => f))).mono (fun b hb _ => hb)
  have hrb : RowAt (fun b => b < w2.heap.size) w2 B (numCells (rights x.t.statics)) := ((own_row HA.out.2.1).2.keeps ((HM1.out.trans HB.out.2.2).keeps (fun _ _ _ f => f))).mono (fun b hb _ => hb)
  have hrc := (own_row HB.out.1).2
  have hrd := (own_row HB.out.2.1).2
  clear cb1 d28 HM1
  obtain ⟨ALL, hALL⟩ : ∃ ALL, ALL = lefts x.t.statics ++ rights x.t.statics ++ lefts x.t.twices ++ rights x.t.twices := ⟨_, rfl⟩
  have hALLl : ALL.length ≤ 1000 := by rw [hALL]; simp only [List.length_append, lefts_len, rights_len]; have := H0.out.2.2.1; have := H0.out.2.2.2.1; omega
  have hcat : ∀ (U : World) (gg : Nat), Mod No w2 U → U.heap[gg]? = some (.cells #[.slice A n1 ca, .slice B n1 cb, .slice C n2 cc, .slice D n2 cd] 26 (0, 0)) → Calls Tryd.prog 38 #[.slice (some ⟨gg, 0, none⟩) 4 4] U fun e w' => ∃ v, e = .returned v ∧ OwnN U.heap.size w' v ALL ∧ Mod No U w' := fun U gg hU hg => by
    have kp := hU.keeps (S := fun b => b < w2.heap.size) (fun _ _ _ f => f)
    have up : ∀ b, b < U.heap.size → b < w2.heap.size → b < U.heap.size := fun b hb _ => hb
    have q1 := (hra.keeps kp).mono up
    have q2 := (hrb.keeps kp).mono up
    have q3 := (hrc.keeps kp).mono up
    have q4 := (hrd.keeps kp).mono up
    have hc := concat_okN32 (S := fun b => b < U.heap.size) (w := U) (Q := some ⟨gg, 0, none⟩) (q := 4) [(A, ca, numCells (lefts x.t.statics)), (B, cb, numCells (rights x.t.statics)), (C, cc, numCells (lefts x.t.twices)), (D, cd, numCells (rights x.t.twices))] (.inr ⟨gg, 0, rfl, lt_of_block hg, fun j v hj => by
      rw [Nat.zero_add, blk_cell hg j]
      rw [← hj]
      simp [partVal, numCells_length, lefts_len, rights_len, ← H0.out.2.2.1, ← H0.out.2.2.2.1]⟩) (by simp) (fun b hb => hb) (fun pp hpp => by
        simp only [List.mem_cons, List.not_mem_nil, or_false] at hpp
        rcases hpp with rfl | rfl | rfl | rfl
        · exact ⟨q1, numCells_one' _⟩
        · exact ⟨q2, numCells_one' _⟩
        · exact ⟨q3, numCells_one' _⟩
        · exact ⟨q4, numCells_one' _⟩) (by
        simp only [partsAll, List.flatMap_cons, List.flatMap_nil, List.append_nil, List.length_append, numCells_length, rights_len, lefts_len]
        have := H0.out.2.2.1
        have := H0.out.2.2.2.1
        omega)
    refine hc.mono ?_
    rintro e w' ⟨v, rfl, hv, hm'⟩
    refine ⟨v, rfl, ?_, hm'⟩
    have e1 : partsAll [(A, ca, numCells (lefts x.t.statics)), (B, cb, numCells (rights x.t.statics)), (C, cc, numCells (lefts x.t.twices)), (D, cd, numCells (rights x.t.twices))] = numCells ALL := by rw [hALL]; simp [partsAll, numCells]
    rw [e1, numCells_length] at hv
    exact hv
  have HC := Lib.hid hcat
  have HR := Lib.hid (And.intro hra (And.intro hrb (And.intro hrc (And.intro hrd (And.intro m02 (And.intro hALL hALLl))))))
  clear hcat hra hrb hrc hrd m02 hALL hALLl
  go_upto_region 4 with (first
    | (go_at_call 38; refine (HC.out _ _ (by repeat (first | with_reducible exact Mod.refl _ _ | refine Mod.alloc ?_ _ | refine Mod.drew ?_)) (by first | exact at10 _ _ | exact at10d _ _)).mono ?_; rintro e w3 ⟨v, rfl, hv, hm3⟩; obtain ⟨E, ce, rfl, _, _⟩ := hv.open; have H3 := Lib.hid (And.intro hv hm3); clear hv hm3)
    | (go_at_call 24; refine (contains_ok ALL 0 (own_row H3.out.1).2 rfl (by have := HR.out.2.2.2.2.2.2; omega)).mono ?_; rintro e w4 ⟨rfl, hw⟩; have hw' := hw.symm; clear hw; subst hw'))
  have m23 : Mod No w2 w3 := ((Mod.refl _ _).alloc _).trans H3.out.2
  have cb3 := m23.cell cb2 (fun f => f)
  obtain ⟨Z, hZ⟩ : ∃ Z, Z = decide (0 ∈ ALL) := ⟨_, rfl⟩
  rw [← hZ]
  go_upto_region 6 with fail
  refine grab_w fun V hV => ?_
  have m3 : Mod No w3 V := by rw [hV]; exact (Mod.refl _ _).alloc _
  have cfx : V.cell? ⟨w3.heap.size, 0, none⟩ = some (.func (.func 39) #[] #[.pointer (some ⟨g, 0, none⟩)]) := by rw [hV]; exact (blk_cell (at10 _ _) 0).trans rfl
  have cbx := m3.cell cb3 (fun f => f)
  obtain ⟨gf, hgf⟩ : ∃ gf, gf = w3.heap.size := ⟨_, rfl⟩
  rw [← hgf] at cfx ⊢
  have m2V : Mod No w2 V := m23.trans m3
  have hR := HR.out
  have kp := m2V.keeps (S := fun b => b < w2.heap.size) (fun _ _ _ f => f)
  have up : ∀ b, b < V.heap.size → b < w2.heap.size → b < V.heap.size := fun b hb _ => hb
  have qa := (hR.1.keeps kp).mono up
  have qb := (hR.2.1.keeps kp).mono up
  have qc := (hR.2.2.1.keeps kp).mono up
  have qd := (hR.2.2.2.1.keeps kp).mono up
  have hH : Held g x V := H0.out.1.keep (hR.2.2.2.2.1.trans m2V)
  have row : ∀ {A : Option Addr} {cs : List Value} (W : World), Mod No V W → RowAt (fun b => b < V.heap.size) V A cs → RowAt (fun b => b < W.heap.size) W A cs := fun W hW hq => (hq.keeps (hW.keeps (fun _ _ _ f => f))).mono (fun b hb _ => hb)
  have e1 := H0.out.2.2.1
  have e2 := H0.out.2.2.2.1
  obtain ⟨T1, hT1⟩ : ∃ T, T = !decide (lefts x.t.statics).Nodup := ⟨_, rfl⟩
  obtain ⟨T2, hT2⟩ : ∃ T, T = !decide (rights x.t.statics).Nodup := ⟨_, rfl⟩
  obtain ⟨T3, hT3⟩ : ∃ T, T = !decide (lefts x.t.twices).Nodup := ⟨_, rfl⟩
  obtain ⟨T4, hT4⟩ : ∃ T, T = !decide (rights x.t.twices).Nodup := ⟨_, rfl⟩
  obtain ⟨F1, hF1⟩ : ∃ F, F = (rights x.t.statics).any (fun y => decide (y ∈ x.t.pool)) := ⟨_, rfl⟩
  obtain ⟨F2, hF2⟩ : ∃ F, F = (lefts x.t.twices).any (fun y => decide (y ∈ x.t.pool) || decide (y ∈ rights x.t.statics)) := ⟨_, rfl⟩
  have HX1 := Lib.hid (show ∀ W, Mod No V W → Calls Tryd.prog 41 #[.slice A n1 ca] W (Says T1 W) from fun W hW => by rw [hT1]; exact twice_ok _ W (row W hW qa) (by rw [lefts_len]; exact e1) (by rw [lefts_len]; omega))
  have HX2 := Lib.hid (show ∀ W, Mod No V W → Calls Tryd.prog 41 #[.slice B n1 cb] W (Says T2 W) from fun W hW => by rw [hT2]; exact twice_ok _ W (row W hW qb) (by rw [rights_len]; exact e1) (by rw [rights_len]; omega))
  have HX3 := Lib.hid (show ∀ W, Mod No V W → Calls Tryd.prog 41 #[.slice C n2 cc] W (Says T3 W) from fun W hW => by rw [hT3]; exact twice_ok _ W (row W hW qc) (by rw [lefts_len]; exact e2) (by rw [lefts_len]; omega))
  have HX4 := Lib.hid (show ∀ W, Mod No V W → Calls Tryd.prog 41 #[.slice D n2 cd] W (Says T4 W) from fun W hW => by rw [hT4]; exact twice_ok _ W (row W hW qd) (by rw [rights_len]; exact e2) (by rw [rights_len]; omega))
  have HX5 := Lib.hid (show ∀ W, Mod No V W → Calls Tryd.prog 33 #[.slice B n1 cb, .func (.func 39) #[] #[.pointer (some ⟨g, 0, none⟩)]] W (Says F1 W) from fun W hW => by rw [hF1]; exact containsFuncN_ok _ (row W hW qb) (by rw [rights_len]; exact e1) (by rw [rights_len]; omega) ((ownedC_ok hH H0.out.2.1).later hW))
  have cbr : V.cell? ⟨gb, 0, none⟩ = some (.slice B (rights x.t.statics).length cb) := by rw [rights_len, ← e1]; exact cbx
  have HX6 := Lib.hid (show ∀ W, Mod No V W → Calls Tryd.prog 33 #[.slice C n2 cc, .func (.func 40) #[] #[.pointer (some ⟨gf, 0, none⟩), .pointer (some ⟨gb, 0, none⟩)]] W (Says F2 W) from fun W hW => by rw [hF2]; exact containsFuncN_ok _ (row W hW qc) (by rw [lefts_len]; exact e2) (by rw [lefts_len]; omega) ((publicC_ok hH H0.out.2.1 (rights x.t.statics) (by rw [rights_len]; omega) B cb cfx cbr qb).later hW))
  have hB0 : B0 = (Z || T1 || T2 || T3 || T4 || F1 || F2) := by
    rw [H0.out.2.2.2.2, hZ, hT1, hT2, hT3, hT4, hF1, hF2, badRules, zeroIn, ← hR.2.2.2.2.2.1, decide_eq_false (show ¬ 16 < x.t.statics.length by omega), decide_eq_false (show ¬ 16 < x.t.twices.length by omega)]
    simp only [Bool.false_or]
  have HV := Lib.hid (hR.2.2.2.2.1.trans m2V)
  have HM := Lib.hid (Mod.refl No V)
  have tk1 := trivial
  have tk2 := trivial
  have tk3 := trivial
  have tk4 := trivial
  have tk5 := trivial
  have tk6 := trivial
  have p1 : ¬ (16:Int) < n1 := by omega
  have p2 : ¬ (16:Int) < n2 := by omega
  clear hZ hT1 hT2 hT3 hT4 hF1 hF2 e1 e2 row hH qa qb qc qd up kp hR m2V hgf m3 hV m23 cb2 cb3 cbr
  cases Z
  · cases T1
    · cases T2
      · cases T3
        · cases T4
          · cases F1
            · cases F2
              · as_aux_lemma =>
                simp only [Bool.or_true, Bool.true_or, Bool.or_false, Bool.false_or] at hB0
                subst hB0
                go_wp2_with (first
                  | (have tk := tk1; go_at_call 41; refine (HX1.out _ HM.out).mono ?_; rintro e u1 ⟨rfl, hm⟩; have cbx := hm.cell cbx (fun f => f); have cfx := hm.cell cfx (fun f => f); have HM := Lib.hid (HM.out.trans hm); clear hm tk tk1)
                  | (have tk := tk2; go_at_call 41; refine (HX2.out _ HM.out).mono ?_; rintro e u2 ⟨rfl, hm⟩; have cbx := hm.cell cbx (fun f => f); have cfx := hm.cell cfx (fun f => f); have HM := Lib.hid (HM.out.trans hm); clear hm tk tk2)
                  | (have tk := tk3; go_at_call 41; refine (HX3.out _ HM.out).mono ?_; rintro e u3 ⟨rfl, hm⟩; have cbx := hm.cell cbx (fun f => f); have cfx := hm.cell cfx (fun f => f); have HM := Lib.hid (HM.out.trans hm); clear hm tk tk3)
                  | (have tk := tk4; go_at_call 41; refine (HX4.out _ HM.out).mono ?_; rintro e u4 ⟨rfl, hm⟩; have cbx := hm.cell cbx (fun f => f); have cfx := hm.cell cfx (fun f => f); have HM := Lib.hid (HM.out.trans hm); clear hm tk tk4)
                  | (have tk := tk5; go_at_call 33; refine (HX5.out _ HM.out).mono ?_; rintro e u5 ⟨rfl, hm⟩; have cbx := hm.cell cbx (fun f => f); have cfx := hm.cell cfx (fun f => f); have HM := Lib.hid (HM.out.trans hm); clear hm tk tk5)
                  | (have tk := tk6; go_at_call 33; refine (HX6.out _ HM.out).mono ?_; rintro e u6 ⟨rfl, hm⟩; have cbx := hm.cell cbx (fun f => f); have cfx := hm.cell cfx (fun f => f); have HM := Lib.hid (HM.out.trans hm); clear hm tk tk6))
                all_goals
                  go_ret
                  exact ⟨by rfl, HV.out.trans HM.out⟩
              · as_aux_lemma =>
                simp only [Bool.or_true, Bool.true_or, Bool.or_false, Bool.false_or] at hB0
                subst hB0
                go_wp2_with (first
                  | (have tk := tk1; go_at_call 41; refine (HX1.out _ HM.out).mono ?_; rintro e u1 ⟨rfl, hm⟩; have cbx := hm.cell cbx (fun f => f); have cfx := hm.cell cfx (fun f => f); have HM := Lib.hid (HM.out.trans hm); clear hm tk tk1)
                  | (have tk := tk2; go_at_call 41; refine (HX2.out _ HM.out).mono ?_; rintro e u2 ⟨rfl, hm⟩; have cbx := hm.cell cbx (fun f => f); have cfx := hm.cell cfx (fun f => f); have HM := Lib.hid (HM.out.trans hm); clear hm tk tk2)
                  | (have tk := tk3; go_at_call 41; refine (HX3.out _ HM.out).mono ?_; rintro e u3 ⟨rfl, hm⟩; have cbx := hm.cell cbx (fun f => f); have cfx := hm.cell cfx (fun f => f); have HM := Lib.hid (HM.out.trans hm); clear hm tk tk3)
                  | (have tk := tk4; go_at_call 41; refine (HX4.out _ HM.out).mono ?_; rintro e u4 ⟨rfl, hm⟩; have cbx := hm.cell cbx (fun f => f); have cfx := hm.cell cfx (fun f => f); have HM := Lib.hid (HM.out.trans hm); clear hm tk tk4)
                  | (have tk := tk5; go_at_call 33; refine (HX5.out _ HM.out).mono ?_; rintro e u5 ⟨rfl, hm⟩; have cbx := hm.cell cbx (fun f => f); have cfx := hm.cell cfx (fun f => f); have HM := Lib.hid (HM.out.trans hm); clear hm tk tk5)
                  | (have tk := tk6; go_at_call 33; refine (HX6.out _ HM.out).mono ?_; rintro e u6 ⟨rfl, hm⟩; have cbx := hm.cell cbx (fun f => f); have cfx := hm.cell cfx (fun f => f); have HM := Lib.hid (HM.out.trans hm); clear hm tk tk6))
                all_goals
                  go_ret
                  exact ⟨by rfl, HV.out.trans HM.out⟩
            · as_aux_lemma =>
              simp only [Bool.or_true, Bool.true_or, Bool.or_false, Bool.false_or] at hB0
              subst hB0
              go_wp2_with (first
                | (have tk := tk1; go_at_call 41; refine (HX1.out _ HM.out).mono ?_; rintro e u1 ⟨rfl, hm⟩; have cbx := hm.cell cbx (fun f => f); have cfx := hm.cell cfx (fun f => f); have HM := Lib.hid (HM.out.trans hm); clear hm tk tk1)
                | (have tk := tk2; go_at_call 41; refine (HX2.out _ HM.out).mono ?_; rintro e u2 ⟨rfl, hm⟩; have cbx := hm.cell cbx (fun f => f); have cfx := hm.cell cfx (fun f => f); have HM := Lib.hid (HM.out.trans hm); clear hm tk tk2)
                | (have tk := tk3; go_at_call 41; refine (HX3.out _ HM.out).mono ?_; rintro e u3 ⟨rfl, hm⟩; have cbx := hm.cell cbx (fun f => f); have cfx := hm.cell cfx (fun f => f); have HM := Lib.hid (HM.out.trans hm); clear hm tk tk3)
                | (have tk := tk4; go_at_call 41; refine (HX4.out _ HM.out).mono ?_; rintro e u4 ⟨rfl, hm⟩; have cbx := hm.cell cbx (fun f => f); have cfx := hm.cell cfx (fun f => f); have HM := Lib.hid (HM.out.trans hm); clear hm tk tk4)
                | (have tk := tk5; go_at_call 33; refine (HX5.out _ HM.out).mono ?_; rintro e u5 ⟨rfl, hm⟩; have cbx := hm.cell cbx (fun f => f); have cfx := hm.cell cfx (fun f => f); have HM := Lib.hid (HM.out.trans hm); clear hm tk tk5))
              all_goals
                go_ret
                exact ⟨by rfl, HV.out.trans HM.out⟩
          · as_aux_lemma =>
            simp only [Bool.or_true, Bool.true_or, Bool.or_false, Bool.false_or] at hB0
            subst hB0
            go_wp2_with (first
              | (have tk := tk1; go_at_call 41; refine (HX1.out _ HM.out).mono ?_; rintro e u1 ⟨rfl, hm⟩; have cbx := hm.cell cbx (fun f => f); have cfx := hm.cell cfx (fun f => f); have HM := Lib.hid (HM.out.trans hm); clear hm tk tk1)
              | (have tk := tk2; go_at_call 41; refine (HX2.out _ HM.out).mono ?_; rintro e u2 ⟨rfl, hm⟩; have cbx := hm.cell cbx (fun f => f); have cfx := hm.cell cfx (fun f => f); have HM := Lib.hid (HM.out.trans hm); clear hm tk tk2)
              | (have tk := tk3; go_at_call 41; refine (HX3.out _ HM.out).mono ?_; rintro e u3 ⟨rfl, hm⟩; have cbx := hm.cell cbx (fun f => f); have cfx := hm.cell cfx (fun f => f); have HM := Lib.hid (HM.out.trans hm); clear hm tk tk3)
              | (have tk := tk4; go_at_call 41; refine (HX4.out _ HM.out).mono ?_; rintro e u4 ⟨rfl, hm⟩; have cbx := hm.cell cbx (fun f => f); have cfx := hm.cell cfx (fun f => f); have HM := Lib.hid (HM.out.trans hm); clear hm tk tk4))
            all_goals
              go_ret
              exact ⟨by rfl, HV.out.trans HM.out⟩
        · as_aux_lemma =>
          simp only [Bool.or_true, Bool.true_or, Bool.or_false, Bool.false_or] at hB0
          subst hB0
          go_wp2_with (first
            | (have tk := tk1; go_at_call 41; refine (HX1.out _ HM.out).mono ?_; rintro e u1 ⟨rfl, hm⟩; have cbx := hm.cell cbx (fun f => f); have cfx := hm.cell cfx (fun f => f); have HM := Lib.hid (HM.out.trans hm); clear hm tk tk1)
            | (have tk := tk2; go_at_call 41; refine (HX2.out _ HM.out).mono ?_; rintro e u2 ⟨rfl, hm⟩; have cbx := hm.cell cbx (fun f => f); have cfx := hm.cell cfx (fun f => f); have HM := Lib.hid (HM.out.trans hm); clear hm tk tk2)
            | (have tk := tk3; go_at_call 41; refine (HX3.out _ HM.out).mono ?_; rintro e u3 ⟨rfl, hm⟩; have cbx := hm.cell cbx (fun f => f); have cfx := hm.cell cfx (fun f => f); have HM := Lib.hid (HM.out.trans hm); clear hm tk tk3))
          all_goals
            go_ret
            exact ⟨by rfl, HV.out.trans HM.out⟩
      · as_aux_lemma =>
        simp only [Bool.or_true, Bool.true_or, Bool.or_false, Bool.false_or] at hB0
        subst hB0
        go_wp2_with (first
          | (have tk := tk1; go_at_call 41; refine (HX1.out _ HM.out).mono ?_; rintro e u1 ⟨rfl, hm⟩; have cbx := hm.cell cbx (fun f => f); have cfx := hm.cell cfx (fun f => f); have HM := Lib.hid (HM.out.trans hm); clear hm tk tk1)
          | (have tk := tk2; go_at_call 41; refine (HX2.out _ HM.out).mono ?_; rintro e u2 ⟨rfl, hm⟩; have cbx := hm.cell cbx (fun f => f); have cfx := hm.cell cfx (fun f => f); have HM := Lib.hid (HM.out.trans hm); clear hm tk tk2))
        all_goals
          go_ret
          exact ⟨by rfl, HV.out.trans HM.out⟩
    · as_aux_lemma =>
      simp only [Bool.or_true, Bool.true_or, Bool.or_false, Bool.false_or] at hB0
      subst hB0
      go_wp2_with (first
        | (have tk := tk1; go_at_call 41; refine (HX1.out _ HM.out).mono ?_; rintro e u1 ⟨rfl, hm⟩; have cbx := hm.cell cbx (fun f => f); have cfx := hm.cell cfx (fun f => f); have HM := Lib.hid (HM.out.trans hm); clear hm tk tk1))
      all_goals
        go_ret
        exact ⟨by rfl, HV.out.trans HM.out⟩
  · as_aux_lemma =>
    simp only [Bool.or_true, Bool.true_or, Bool.or_false, Bool.false_or] at hB0
    subst hB0
    go_wp2
    all_goals
      go_ret
      exact ⟨by rfl, HV.out.trans HM.out⟩

end Go.Proofs.YtfpfpeachmcfeaaDoor
