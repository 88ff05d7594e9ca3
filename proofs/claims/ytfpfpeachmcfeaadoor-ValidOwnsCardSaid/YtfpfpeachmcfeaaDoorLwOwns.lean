/-
  The law ValidOwns, walked.
-/
import Derived.Test.YtfpfpeachmcfeaaDoorOwdN
namespace Go.Proofs.YtfpfpeachmcfeaaDoor
open Go.RowKit
set_option linter.unusedVariables false
set_option linter.unusedSimpArgs false
attribute [local go_sem ↓] Go.wp_at_zero Go.wp_at_succ
attribute [local go_sem ↓] store_fold alloc_fold load_fold slice_op_fold ten_zero_fold

set_option maxRecDepth 100000 in
set_option maxHeartbeats 2000000 in
theorem validOwns_walk {w : World} (x : TV) (hx : x.Open w) (ip : Nat) (hip : ip < 4294967296) (kz : Int) :
    Calls Tryd.prog 3 #[.agg x.cells.toArray, .int .u32 (ip : Int), .int .i64 kz] w fun e w' => e = .returned (.bool true) ∧ Mod No w w' := by
  obtain ⟨CX, hCX⟩ : ∃ CX, CX = x.cells.toArray := ⟨_, rfl⟩
  have hbox := box_ten CX (by rw [hCX]; rfl) w
  obtain ⟨W, hW⟩ : ∃ W, W = w.alloc (.cells CX 30) := ⟨_, rfl⟩
  have m1 : Mod No w W := by rw [hW]; exact (Mod.refl _ _).alloc _
  have hbl : W.heap[w.heap.size]? = some (.cells x.cells.toArray 30 (0, 0)) := by rw [hW, hCX]; exact at10 w _
  have hH : Held w.heap.size x W := ⟨hbl, (hx.here.keeps (m1.keeps (fun _ _ _ f => f))).lt (fun b hb _ => hb)⟩
  rw [← hCX]
  obtain ⟨g, hg⟩ : ∃ g, g = w.heap.size := ⟨_, rfl⟩
  rw [← hg] at hH hbox
  have hld : ∀ U, Mod No W U → (tenLoad (.pointer (some ⟨g, 0, none⟩))).run Tryd.prog U = .ok (.agg CX) U := fun U hU => by rw [hCX]; exact tenLoad_run (hH.keep hU).blk rfl
  have hlight : ∀ U, Mod No W U → Calls Tryd.prog 10 #[.agg CX] U fun e w' => e = .returned (.bool (light x.t)) ∧ Mod No U w' := fun U hU => by rw [hCX]; exact light_ok x.t _ (hH.keep hU).rows.val
  have HL := Lib.hid hld
  have HLi := Lib.hid hlight
  have HKn := Lib.hid known_ok
  have H := Lib.hid (And.intro hH (And.intro m1 hCX))
  clear hbl hCX hx m1 hH hld hlight
  go_enter Tryd.func3, Tryd.ntmps3
  go_upto_region 1 with fail
  rw [← hW]
  rw [← hg]
  clear hW hbox hg
  go_upto_region 3 with (go_at_call 9; refine (HKn.out _).mono ?_; rintro e w1 ⟨rfl, hm1⟩)
  have ld1 := HL.out w1 hm1
  have H1 := Lib.hid hm1
  clear hm1
  cases hlt : light x.t
  · as_aux_lemma =>
    have HLt := Lib.hid hlt
    clear hlt
    go_wp2_with (go_at_call 10; refine (HLi.out w1 H1.out).mono ?_; rw [HLt.out]; rintro e w2 ⟨rfl, hm2⟩)
    go_ret
    exact ⟨rfl, (H.out.2.1.trans H1.out).trans hm2⟩
  · have hb : x.t.pool.length ≤ 300 ∧ x.t.statics.length ≤ 300 := by
      simp only [light, Bool.and_eq_true, decide_eq_true_eq] at hlt
      exact ⟨hlt.1.1.2, hlt.1.2⟩
    have HLt := Lib.hid (And.intro hlt hb)
    clear hlt hb
    go_upto_region 5 with (go_at_call 10; refine (HLi.out w1 H1.out).mono ?_; rw [HLt.out.1]; rintro e w2 ⟨rfl, hm2⟩)
    have mw2 := H1.out.trans hm2
    have ld2 := HL.out w2 mw2
    have how := refOwned_ok x ((H.out.1.keep mw2).rows) (by have := HLt.out.2.1; omega) (by have := HLt.out.2.2; omega)
    rw [← H.out.2.2] at how
    have HOw := Lib.hid how
    have H2 := Lib.hid mw2
    clear hm2 mw2 how ld1
    go_upto_region 6 with (go_at_call 11; refine HOw.out.mono ?_; rintro e w3 ⟨v, rfl, ho, hm3⟩; obtain ⟨A, c, hv, _, hr⟩ := ho.open; subst hv; have H3 := Lib.hid (And.intro hr (H2.out.trans hm3)); clear ho hm3 hr)
    have hV : ∀ y U, Mod No w3 U → Calls Tryd.prog 13 #[.agg CX, .int .u32 ((y : Nat) : Int)] U fun e w' => e = .returned (.bool (decide (y ∈ ownedN x.t))) ∧ Mod No U w' := fun y U hU => by
      rw [H.out.2.2]; exact owns_ok x (H.out.1.keep (H3.out.2.trans hU)).rows (by have := HLt.out.2.1; omega) (by have := HLt.out.2.2; omega) y
    have hRf : ∀ y U, Mod No w3 U → Calls Tryd.prog 14 #[.agg CX, .int .u32 ((y : Nat) : Int)] U fun e w' => e = .returned (.bool (decide (y ∈ ownedN x.t))) ∧ Mod No U w' := fun y U hU => by
      rw [H.out.2.2]; exact refOwns_ok x (H.out.1.keep (H3.out.2.trans hU)).rows (by have := HLt.out.2.1; omega) (by have := HLt.out.2.2; omega) y
    have HL3 := Lib.hid (fun U (hU : Mod No w3 U) => HL.out U (H3.out.2.trans hU))
    have HV2 := Lib.hid (fun U (hU : Mod No w3 U) => (H.out.2.1.trans H3.out.2).trans hU)
    have HVV := Lib.hid hV
    have HRR := Lib.hid hRf
    obtain ⟨n, hn⟩ : ∃ n, n = (ownedN x.t).length := ⟨_, rfl⟩
    have hn6 : n ≤ 1000 := by rw [hn]; unfold ownedN; rw [List.length_append, rights_len]; have h1 := HLt.out.2.1; have h2 := HLt.out.2.2; omega
    rw [← hn]
    have HN := Lib.hid hn
    clear hV hRf hn ld2
    by_cases hcond : 0 < n ∧ kz.tmod 2 = 0
    · as_aux_lemma =>
      have p1 : (0:Int) < n := by omega
      have p2 : kz.tmod 2 = 0 := hcond.2
      have HP := Lib.hid (place_ok w3 kz n hcond.1 (by omega))
      have hx7 : ∀ j : Nat, j < n → ∃ (b o y : Nat), A = some ⟨b, o, none⟩ ∧ w3.cell? ⟨b, o + j, none⟩ = some (.int .u32 (y : Int)) := fun j hj => by
        obtain ⟨b, o, e, _, _, h1⟩ := num_at H3.out.1 (List.getElem?_eq_getElem (by rw [← HN.out]; exact hj))
        exact ⟨b, o, _, e, h1⟩
      have HX7 := Lib.hid hx7
      clear hx7
      go_upto_region 8 with (go_at_call 12; refine HP.out.mono ?_; rintro e w4 ⟨j, rfl, hj, hw⟩; have hw' := hw.symm; clear hw; subst hw'; obtain ⟨b, o, y, hA, hcy⟩ := HX7.out j hj; subst hA; have q1 : (0:Int) ≤ j := (by omega); have q2 : (j:Int) < n := (by omega))
      all_goals
        have hv := HVV.out y
        have hrf := HRR.out y
        obtain ⟨Bd, hBd⟩ : ∃ B, B = decide (y ∈ ownedN x.t) := ⟨_, rfl⟩
        obtain ⟨yz, hyz⟩ : ∃ z : Int, z = (y : Int) := ⟨_, rfl⟩
        rw [← hBd, ← hyz] at hv hrf
        rw [← hyz]
        have HV := Lib.hid hv
        have HRf := Lib.hid hrf
        clear hv hrf hBd hyz HVV HRR hcy
        go_region_held3 (fun U => (tenLoad (.pointer (some ⟨g, 0, none⟩))).run Tryd.prog U = .ok (.agg CX) U)
          ((refine HL3.out _ ?_; repeat (first | with_reducible exact Mod.refl _ _ | refine Mod.drew ?_ | with_reducible exact zv' | with_reducible exact zr')))
          (first
          | (go_at_call 13; refine (HV.out _ (by first | with_reducible exact zr' | (repeat (first | with_reducible exact Mod.refl _ _ | refine Mod.drew ?_)))).mono ?_; rintro e u ⟨rfl, hm⟩; have zv' := Mod.trans (F := No) (a := w3) (by first | with_reducible exact zr' | (repeat (first | with_reducible exact Mod.refl _ _ | refine Mod.drew ?_))) hm; clear hm)
          | (go_at_call 14; refine (HRf.out _ (by first | with_reducible exact zv' | (repeat (first | with_reducible exact Mod.refl _ _ | refine Mod.drew ?_)))).mono ?_; rintro e u ⟨rfl, hm⟩; have zr' := Mod.trans (F := No) (a := w3) (by first | with_reducible exact zv' | (repeat (first | with_reducible exact Mod.refl _ _ | refine Mod.drew ?_))) hm; clear hm))
        all_goals
          go_wp2
          go_ret
          refine ⟨by cases Bd <;> rfl, ?_⟩
          first | exact HV2.out _ zv' | exact HV2.out _ zr'
    · as_aux_lemma =>
      have hv := HVV.out ip
      have hrf := HRR.out ip
      obtain ⟨Bd, hBd⟩ : ∃ B, B = decide (ip ∈ ownedN x.t) := ⟨_, rfl⟩
      obtain ⟨yz, hyz⟩ : ∃ z : Int, z = (ip : Int) := ⟨_, rfl⟩
      rw [← hBd, ← hyz] at hv hrf
      rw [← hyz]
      have HV := Lib.hid hv
      have HRf := Lib.hid hrf
      have hc2 : ¬ (0:Int) < n ∨ ¬ kz.tmod 2 = 0 := by
        by_cases h0 : 0 < n
        · exact .inr (fun h => hcond ⟨h0, h⟩)
        · exact .inl (by omega)
      clear hv hrf hBd hyz HVV HRR hcond
      rcases hc2 with p1 | p2
      all_goals
        go_upto_region 8 with fail
      all_goals
        go_region_held3 (fun U => (tenLoad (.pointer (some ⟨g, 0, none⟩))).run Tryd.prog U = .ok (.agg CX) U)
          ((refine HL3.out _ ?_; repeat (first | with_reducible exact Mod.refl _ _ | refine Mod.drew ?_ | with_reducible exact zv' | with_reducible exact zr')))
          (first
          | (go_at_call 13; refine (HV.out _ (by first | with_reducible exact zr' | (repeat (first | with_reducible exact Mod.refl _ _ | refine Mod.drew ?_)))).mono ?_; rintro e u ⟨rfl, hm⟩; have zv' := Mod.trans (F := No) (a := w3) (by first | with_reducible exact zr' | (repeat (first | with_reducible exact Mod.refl _ _ | refine Mod.drew ?_))) hm; clear hm)
          | (go_at_call 14; refine (HRf.out _ (by first | with_reducible exact zv' | (repeat (first | with_reducible exact Mod.refl _ _ | refine Mod.drew ?_)))).mono ?_; rintro e u ⟨rfl, hm⟩; have zr' := Mod.trans (F := No) (a := w3) (by first | with_reducible exact zv' | (repeat (first | with_reducible exact Mod.refl _ _ | refine Mod.drew ?_))) hm; clear hm))
        all_goals
          go_wp2
          go_ret
          refine ⟨by cases Bd <;> rfl, ?_⟩
          first | exact HV2.out _ zv' | exact HV2.out _ zr'

end Go.Proofs.YtfpfpeachmcfeaaDoor
