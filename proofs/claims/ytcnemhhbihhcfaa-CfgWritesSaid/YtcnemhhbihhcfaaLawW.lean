/-
  The law CfgWrites, walked.
-/
import Derived.Test.YtcnemhhbihhcfaaLawH
import Derived.Test.YtcnemhhbihhcfaaRefD
namespace Go.Proofs.Ytcnemhhbihhcfaa
open Go.RowKit
set_option linter.unusedVariables false

set_option maxRecDepth 100000 in
set_option maxHeartbeats 4000000 in
theorem cfgWrites_walk {w : World} (c : Con) (A : Option Addr) (k : Nat) (l : List TV) (hip : c.ip < 4294967296) (hdr : c.drain < 4294967296) (hl63 : l.length ≤ 9223372036854775807) (hrow : RowAt (fun _ => True) w A (tvCells l)) (hlo : ∀ x ∈ l, x.Open w)
    (put : Bool) (name : List UInt8) (x : TV) (hx : x.Open w) :
    Calls Try.prog 5 #[.agg (c.cells (.slice A l.length k)), .agg (cChg put name x)] w fun e w' => e = .returned (.bool true) ∧ Mod No w w' := by
  obtain ⟨CA, hCA⟩ : ∃ CA, CA = c.cells (.slice A l.length k) := ⟨_, rfl⟩
  obtain ⟨CB, hCB⟩ : ∃ CB, CB = cChg put name x := ⟨_, rfl⟩
  obtain ⟨TA, hTA⟩ : ∃ TA, TA = x.cells.toArray := ⟨_, rfl⟩
  have bA := box_con CA (by rw [hCA]; rfl)
  have bB := box_chg CB (by rw [hCB]; exact cChg_size _ _ _)
  obtain ⟨w0, hw0⟩ : ∃ w0, w0 = (w.alloc (.cells CA 48)).alloc (.cells CB 38) := ⟨_, rfl⟩
  have hm0 : Mod No w w0 := by rw [hw0]; exact ((Mod.refl _ _).alloc _).alloc _
  have hA0 : w0.heap[w.heap.size]? = some (.cells CA 48 (0, 0)) := by rw [hw0]; exact at20 w _ _
  have hB0 : w0.heap[w.heap.size + 1]? = some (.cells CB 38 (0, 0)) := by rw [hw0]; exact at21 w _ _
  -- what is read of the two blocks, whenever
  have hrd : ∀ W, Mod No w0 W → W.cell? ⟨w.heap.size, 28, none⟩ = some (.slice A l.length k) ∧ W.cell? ⟨w.heap.size + 1, 1, none⟩ = some (.string (str name)) ∧ (tenLoad (.pointer (some ⟨w.heap.size + 1, 2, none⟩))).run Try.prog W = .ok (.agg TA) W := fun W hW => by
    have h1 := hW.obj hA0 id
    have h2 := hW.obj hB0 id
    rw [hCB] at h2
    refine ⟨by rw [blk_cell h1, hCA]; rfl, by rw [blk_cell h2]; exact cChg1 _ _ _, ?_⟩
    rw [hTA]
    exact chgTen_run h2
  have hLD : ∀ W, Mod No w0 W → (conLoad (.pointer (some ⟨w.heap.size, 0, none⟩))).run Try.prog W = .ok (.agg CA) W ∧ (chgLoad (.pointer (some ⟨w.heap.size + 1, 0, none⟩))).run Try.prog W = .ok (.agg CB) W ∧ (tenLoad (.pointer (some ⟨w.heap.size + 1, 2, none⟩))).run Try.prog W = .ok (.agg TA) W := fun W hW =>
    ⟨conLoad_run (hW.obj hA0 id) (by rw [hCA]; rfl), chgLoad_run (hW.obj hB0 id) (by rw [hCB]; exact cChg_size _ _ _), (hrd W hW).2.2⟩
  have hkp : ∀ W, Mod No w0 W → Keeps (fun _ => True) w W := fun W hW => (hm0.trans hW).keeps (fun _ _ _ f => f)
  obtain ⟨r1, hr1⟩ : ∃ r1, r1 = lights l 20 := ⟨_, rfl⟩
  obtain ⟨r2, hr2⟩ : ∃ r2, r2 = light x.t := ⟨_, rfl⟩
  have hK1 : ∀ W, Mod No w0 W → Calls Try.prog 19 #[.slice A l.length k, .int .i64 20] W fun e w' => e = .returned (.bool r1) ∧ Mod No W w' := fun W hW => by
    rw [hr1]
    refine lights_ok l 20 (by decide) hl63 (hrow.keeps (hkp W hW)) (fun y hy => ⟨(hlo y hy).rows.keeps (hkp W hW), (hlo y hy).wf⟩)
  have hK2 : ∀ W, Mod No w0 W → Calls Try.prog 10 #[.agg TA] W fun e w' => e = .returned (.bool r2) ∧ Mod No W w' := fun W hW => by
    rw [hr2, hTA]
    exact light_ok x.t _ (hx.val.keeps (hkp W hW))
  -- the six calls
  have hsix : r1 = true → r2 = true → name.length ≤ 300 → ∀ W, Mod No w0 W →
      (Calls Try.prog 21 #[.agg CA] W fun e w' => ∃ v, e = .returned v ∧ OwnB w' W.heap.size v (wcon c l) ∧ Mod No W w') ∧
      (Calls Try.prog 22 #[.agg CA] W fun e w' => ∃ v, e = .returned v ∧ OwnB w' W.heap.size v (wcon c l) ∧ Mod No W w') ∧
      (Calls Try.prog 15 #[.agg CB] W fun e w' => ∃ v, e = .returned v ∧ OwnB w' W.heap.size v (wchg put name x.t) ∧ Mod No W w') ∧
      (Calls Try.prog 23 #[.agg CB] W fun e w' => ∃ v, e = .returned v ∧ OwnB w' W.heap.size v (wchg put name x.t) ∧ Mod No W w') ∧
      (Calls Try.prog 14 #[.agg TA] W fun e w' => ∃ v, e = .returned v ∧ OwnB w' W.heap.size v (wten x.t) ∧ Mod No W w') ∧
      (Calls Try.prog 24 #[.agg TA] W fun e w' => ∃ v, e = .returned v ∧ OwnB w' W.heap.size v (wten x.t) ∧ Mod No W w') := by
    intro e1 e2 hn W hW
    obtain ⟨l1, l2⟩ := lights_of (hr1.symm.trans e1)
    have lx := light_of (hr2.symm.trans e2)
    have hx' : TV.Rows (· < W.heap.size) W x := TV.Open.here ⟨hx.rows.keeps (hkp W hW), hx.wf⟩
    have hl' : ∀ y ∈ l, y.t.Ok ∧ y.t.name.length ≤ 100000000 ∧ y.Rows (· < W.heap.size) W := fun y hy => ⟨(hlo y hy).wf.ok, by have := (light_of (l2 y hy)).1; omega, TV.Open.here ⟨(hlo y hy).rows.keeps (hkp W hW), (hlo y hy).wf⟩⟩
    have hrow' : ∃ P p, (Value.slice A l.length k) = .slice P l.length p ∧ RowAt (· < W.heap.size) W P (tvCells l) := ⟨_, _, rfl, (hrow.keeps (hkp W hW)).mono (fun b hb _ => hb)⟩
    rw [hCA, hCB, hTA]
    exact ⟨cfgConfig_ok c _ l hip hdr hrow' hl', refConfig_ok c _ l hip hdr hrow' hl' (fun y hy => by have := light_of (l2 y hy); omega) (by omega), cfgChange_ok put name x hx' hx.wf.ok (by omega) (by omega), refChange_ok put name x hx' hx.wf.ok (by omega) (by omega) (by omega),
      cfgTenant_ok x hx' hx.wf.ok (by omega), refTenant_ok x hx' hx.wf.ok (by omega) (by omega)⟩
  rw [← hCA, ← hCB]
  obtain ⟨X1, hX1⟩ : ∃ X1, X1 = wcon c l := ⟨_, rfl⟩
  obtain ⟨X2, hX2⟩ : ∃ X2, X2 = wchg put name x.t := ⟨_, rfl⟩
  obtain ⟨X3, hX3⟩ : ∃ X3, X3 = wten x.t := ⟨_, rfl⟩
  rw [← hX1, ← hX2, ← hX3] at hsix
  obtain ⟨n, hn⟩ : ∃ n, n = l.length := ⟨_, rfl⟩
  obtain ⟨m, hm⟩ : ∃ m, m = name.length := ⟨_, rfl⟩
  have hss : (str name).size = m := by rw [str_size, hm]
  rw [← hn] at hrd hK1
  rw [← hm] at hsix
  have HRD := Lib.hid hrd
  have HLD := Lib.hid hLD
  have HK1 := Lib.hid hK1
  have HK2 := Lib.hid hK2
  have H6 := Lib.hid hsix
  have HM0 := Lib.hid hm0
  have HW0 := Lib.hid hw0
  have HKN := Lib.hid known_ok
  clear hrd hLD hK1 hK2 hsix hm0 hw0 hkp hrow hlo hx hA0 hB0 hCA hCB hTA hr1 hr2 hX1 hX2 hX3 hn hm hip hdr hl63
  go_enter Try.func5, Try.ntmps5
  go_wp2_with fail
  rw [← HW0.out]
  refine (HKN.out w0).mono ?_
  rintro e w1 ⟨rfl, k1⟩
  obtain ⟨c1, d1, t1⟩ := HRD.out w1 k1
  cases r1
  · go_wp2_with (first | (go_at_call 19; refine (HK1.out _ k1).mono ?_; rintro e w2 ⟨rfl, m2⟩; have H2 := Lib.hid m2; clear m2) | fail)
    go_ret
    exact ⟨rfl, (HM0.out.trans k1).trans H2.out⟩
  cases r2
  · go_wp2_with (first | (go_at_call 19; refine (HK1.out _ k1).mono ?_; rintro e w2 ⟨rfl, m2⟩; have k2 : Mod No w0 w2 := Mod.trans k1 m2; obtain ⟨c2, d2, t2⟩ := HRD.out w2 k2; clear m2) | (go_at_call 10; refine (HK2.out _ k2).mono ?_; rintro e w3 ⟨rfl, m3⟩; have k3 : Mod No w0 w3 := Mod.trans k2 m3; obtain ⟨c3, d3, t3⟩ := HRD.out w3 k3; clear m3) | fail)
    go_ret
    exact ⟨rfl, HM0.out.trans k3⟩
  by_cases h300 : m ≤ 300
  · have p3 : decide ((300 : Int) < m) = false := by rw [decide_eq_false_iff_not]; omega
    go_upto_region 5 with (first | (go_at_call 19; refine (HK1.out _ k1).mono ?_; rintro e w2 ⟨rfl, m2⟩; have k2 : Mod No w0 w2 := Mod.trans k1 m2; obtain ⟨c2, d2, t2⟩ := HRD.out w2 k2; clear m2) | (go_at_call 10; refine (HK2.out _ k2).mono ?_; rintro e w3 ⟨rfl, m3⟩; have k3 : Mod No w0 w3 := Mod.trans k2 m3; obtain ⟨c3, d3, t3⟩ := HRD.out w3 k3; clear m3) | fail)
    clear c1 d1 t1 c2 d2 t2 c3 d3 t3 k1 k2 HRD HK1 HK2
    go_region_held3 (fun W => (conLoad (.pointer (some ⟨w.heap.size, 0, none⟩))).run Try.prog W = .ok (.agg CA) W ∧ (chgLoad (.pointer (some ⟨w.heap.size + 1, 0, none⟩))).run Try.prog W = .ok (.agg CB) W ∧ (tenLoad (.pointer (some ⟨w.heap.size + 1, 2, none⟩))).run Try.prog W = .ok (.agg TA) W)
      (exact HLD.out _ (by (repeat (first | with_reducible exact k3 | with_reducible refine Mod.trans ?_ m13 | with_reducible refine Mod.trans ?_ m12 | with_reducible refine Mod.trans ?_ m11 | with_reducible refine Mod.trans ?_ m10 | with_reducible refine Mod.trans ?_ m9 | with_reducible refine Mod.trans ?_ m8 | with_reducible refine Mod.trans ?_ m7 | with_reducible refine Mod.trans ?_ m6 | with_reducible refine Mod.trans ?_ m5 | with_reducible refine Mod.trans ?_ m4 | refine Mod.alloc ?_ _ | refine Mod.drew ?_))))
      (first
        | (go_at_call 21; refine (H6.out (by simp) (by simp) h300 _ ?_).1.mono ?_; (repeat (first | with_reducible exact k3 | with_reducible refine Mod.trans ?_ m13 | with_reducible refine Mod.trans ?_ m12 | with_reducible refine Mod.trans ?_ m11 | with_reducible refine Mod.trans ?_ m10 | with_reducible refine Mod.trans ?_ m9 | with_reducible refine Mod.trans ?_ m8 | with_reducible refine Mod.trans ?_ m7 | with_reducible refine Mod.trans ?_ m6 | with_reducible refine Mod.trans ?_ m5 | with_reducible refine Mod.trans ?_ m4 | refine Mod.alloc ?_ _ | refine Mod.drew ?_)); rintro e w4 ⟨v4, rfl, o4, m4⟩; obtain ⟨a4, q4, rfl, _, r4⟩ := OwnB.open o4)
        | (go_at_call 22; refine (H6.out (by simp) (by simp) h300 _ ?_).2.1.mono ?_; (repeat (first | with_reducible exact k3 | with_reducible refine Mod.trans ?_ m13 | with_reducible refine Mod.trans ?_ m12 | with_reducible refine Mod.trans ?_ m11 | with_reducible refine Mod.trans ?_ m10 | with_reducible refine Mod.trans ?_ m9 | with_reducible refine Mod.trans ?_ m8 | with_reducible refine Mod.trans ?_ m7 | with_reducible refine Mod.trans ?_ m6 | with_reducible refine Mod.trans ?_ m5 | with_reducible refine Mod.trans ?_ m4 | refine Mod.alloc ?_ _ | refine Mod.drew ?_)); rintro e w5 ⟨v5, rfl, o5, m5⟩; obtain ⟨a5, q5, rfl, _, r5⟩ := OwnB.open o5)
        | (go_at_call 20; refine (bytes_same a4 a5 q4 q5 _ (r4.keeps (Mod.keeps (F := No) (by (repeat (first | with_reducible exact Mod.refl _ _ | with_reducible refine Mod.trans ?_ m13 | with_reducible refine Mod.trans ?_ m12 | with_reducible refine Mod.trans ?_ m11 | with_reducible refine Mod.trans ?_ m10 | with_reducible refine Mod.trans ?_ m9 | with_reducible refine Mod.trans ?_ m8 | with_reducible refine Mod.trans ?_ m7 | with_reducible refine Mod.trans ?_ m6 | with_reducible refine Mod.trans ?_ m5 | with_reducible refine Mod.trans ?_ m4 | refine Mod.alloc ?_ _ | refine Mod.drew ?_))) (fun _ _ _ f => f))) (r5.keeps (Mod.keeps (F := No) (by (repeat (first | with_reducible exact Mod.refl _ _ | with_reducible refine Mod.trans ?_ m13 | with_reducible refine Mod.trans ?_ m12 | with_reducible refine Mod.trans ?_ m11 | with_reducible refine Mod.trans ?_ m10 | with_reducible refine Mod.trans ?_ m9 | with_reducible refine Mod.trans ?_ m8 | with_reducible refine Mod.trans ?_ m7 | with_reducible refine Mod.trans ?_ m6 | with_reducible refine Mod.trans ?_ m5 | with_reducible refine Mod.trans ?_ m4 | refine Mod.alloc ?_ _ | refine Mod.drew ?_))) (fun _ _ _ f => f)))).mono ?_; rintro e w6 ⟨rfl, rfl⟩)
        | (go_at_call 15; refine (H6.out (by simp) (by simp) h300 _ ?_).2.2.1.mono ?_; (repeat (first | with_reducible exact k3 | with_reducible refine Mod.trans ?_ m13 | with_reducible refine Mod.trans ?_ m12 | with_reducible refine Mod.trans ?_ m11 | with_reducible refine Mod.trans ?_ m10 | with_reducible refine Mod.trans ?_ m9 | with_reducible refine Mod.trans ?_ m8 | with_reducible refine Mod.trans ?_ m7 | with_reducible refine Mod.trans ?_ m6 | with_reducible refine Mod.trans ?_ m5 | with_reducible refine Mod.trans ?_ m4 | refine Mod.alloc ?_ _ | refine Mod.drew ?_)); rintro e w7 ⟨v7, rfl, o7, m7⟩; obtain ⟨a7, q7, rfl, _, r7⟩ := OwnB.open o7)
        | (go_at_call 23; refine (H6.out (by simp) (by simp) h300 _ ?_).2.2.2.1.mono ?_; (repeat (first | with_reducible exact k3 | with_reducible refine Mod.trans ?_ m13 | with_reducible refine Mod.trans ?_ m12 | with_reducible refine Mod.trans ?_ m11 | with_reducible refine Mod.trans ?_ m10 | with_reducible refine Mod.trans ?_ m9 | with_reducible refine Mod.trans ?_ m8 | with_reducible refine Mod.trans ?_ m7 | with_reducible refine Mod.trans ?_ m6 | with_reducible refine Mod.trans ?_ m5 | with_reducible refine Mod.trans ?_ m4 | refine Mod.alloc ?_ _ | refine Mod.drew ?_)); rintro e w8 ⟨v8, rfl, o8, m8⟩; obtain ⟨a8, q8, rfl, _, r8⟩ := OwnB.open o8)
        | (go_at_call 20; refine (bytes_same a7 a8 q7 q8 _ (r7.keeps (Mod.keeps (F := No) (by (repeat (first | with_reducible exact Mod.refl _ _ | with_reducible refine Mod.trans ?_ m13 | with_reducible refine Mod.trans ?_ m12 | with_reducible refine Mod.trans ?_ m11 | with_reducible refine Mod.trans ?_ m10 | with_reducible refine Mod.trans ?_ m9 | with_reducible refine Mod.trans ?_ m8 | with_reducible refine Mod.trans ?_ m7 | with_reducible refine Mod.trans ?_ m6 | with_reducible refine Mod.trans ?_ m5 | with_reducible refine Mod.trans ?_ m4 | refine Mod.alloc ?_ _ | refine Mod.drew ?_))) (fun _ _ _ f => f))) (r8.keeps (Mod.keeps (F := No) (by (repeat (first | with_reducible exact Mod.refl _ _ | with_reducible refine Mod.trans ?_ m13 | with_reducible refine Mod.trans ?_ m12 | with_reducible refine Mod.trans ?_ m11 | with_reducible refine Mod.trans ?_ m10 | with_reducible refine Mod.trans ?_ m9 | with_reducible refine Mod.trans ?_ m8 | with_reducible refine Mod.trans ?_ m7 | with_reducible refine Mod.trans ?_ m6 | with_reducible refine Mod.trans ?_ m5 | with_reducible refine Mod.trans ?_ m4 | refine Mod.alloc ?_ _ | refine Mod.drew ?_))) (fun _ _ _ f => f)))).mono ?_; rintro e w9 ⟨rfl, rfl⟩)
        | (go_at_call 14; refine (H6.out (by simp) (by simp) h300 _ ?_).2.2.2.2.1.mono ?_; (repeat (first | with_reducible exact k3 | with_reducible refine Mod.trans ?_ m13 | with_reducible refine Mod.trans ?_ m12 | with_reducible refine Mod.trans ?_ m11 | with_reducible refine Mod.trans ?_ m10 | with_reducible refine Mod.trans ?_ m9 | with_reducible refine Mod.trans ?_ m8 | with_reducible refine Mod.trans ?_ m7 | with_reducible refine Mod.trans ?_ m6 | with_reducible refine Mod.trans ?_ m5 | with_reducible refine Mod.trans ?_ m4 | refine Mod.alloc ?_ _ | refine Mod.drew ?_)); rintro e w10 ⟨v10, rfl, o10, m10⟩; obtain ⟨a10, q10, rfl, _, r10⟩ := OwnB.open o10)
        | (go_at_call 24; refine (H6.out (by simp) (by simp) h300 _ ?_).2.2.2.2.2.mono ?_; (repeat (first | with_reducible exact k3 | with_reducible refine Mod.trans ?_ m13 | with_reducible refine Mod.trans ?_ m12 | with_reducible refine Mod.trans ?_ m11 | with_reducible refine Mod.trans ?_ m10 | with_reducible refine Mod.trans ?_ m9 | with_reducible refine Mod.trans ?_ m8 | with_reducible refine Mod.trans ?_ m7 | with_reducible refine Mod.trans ?_ m6 | with_reducible refine Mod.trans ?_ m5 | with_reducible refine Mod.trans ?_ m4 | refine Mod.alloc ?_ _ | refine Mod.drew ?_)); rintro e w11 ⟨v11, rfl, o11, m11⟩; obtain ⟨a11, q11, rfl, _, r11⟩ := OwnB.open o11)
        | (go_at_call 20; refine (bytes_same a10 a11 q10 q11 _ (r10.keeps (Mod.keeps (F := No) (by (repeat (first | with_reducible exact Mod.refl _ _ | with_reducible refine Mod.trans ?_ m13 | with_reducible refine Mod.trans ?_ m12 | with_reducible refine Mod.trans ?_ m11 | with_reducible refine Mod.trans ?_ m10 | with_reducible refine Mod.trans ?_ m9 | with_reducible refine Mod.trans ?_ m8 | with_reducible refine Mod.trans ?_ m7 | with_reducible refine Mod.trans ?_ m6 | with_reducible refine Mod.trans ?_ m5 | with_reducible refine Mod.trans ?_ m4 | refine Mod.alloc ?_ _ | refine Mod.drew ?_))) (fun _ _ _ f => f))) (r11.keeps (Mod.keeps (F := No) (by (repeat (first | with_reducible exact Mod.refl _ _ | with_reducible refine Mod.trans ?_ m13 | with_reducible refine Mod.trans ?_ m12 | with_reducible refine Mod.trans ?_ m11 | with_reducible refine Mod.trans ?_ m10 | with_reducible refine Mod.trans ?_ m9 | with_reducible refine Mod.trans ?_ m8 | with_reducible refine Mod.trans ?_ m7 | with_reducible refine Mod.trans ?_ m6 | with_reducible refine Mod.trans ?_ m5 | with_reducible refine Mod.trans ?_ m4 | refine Mod.alloc ?_ _ | refine Mod.drew ?_))) (fun _ _ _ f => f)))).mono ?_; rintro e w12 ⟨rfl, rfl⟩))
    all_goals
      go_wp2
      go_ret
      exact ⟨rfl, HM0.out.trans (by (repeat (first | with_reducible exact k3 | with_reducible refine Mod.trans ?_ m13 | with_reducible refine Mod.trans ?_ m12 | with_reducible refine Mod.trans ?_ m11 | with_reducible refine Mod.trans ?_ m10 | with_reducible refine Mod.trans ?_ m9 | with_reducible refine Mod.trans ?_ m8 | with_reducible refine Mod.trans ?_ m7 | with_reducible refine Mod.trans ?_ m6 | with_reducible refine Mod.trans ?_ m5 | with_reducible refine Mod.trans ?_ m4 | refine Mod.alloc ?_ _ | refine Mod.drew ?_)))⟩
  · have p3 : decide ((300 : Int) < m) = true := by rw [decide_eq_true_eq]; omega
    go_wp2_with (first | (go_at_call 19; refine (HK1.out _ k1).mono ?_; rintro e w2 ⟨rfl, m2⟩; have k2 : Mod No w0 w2 := Mod.trans k1 m2; obtain ⟨c2, d2, t2⟩ := HRD.out w2 k2; clear m2) | (go_at_call 10; refine (HK2.out _ k2).mono ?_; rintro e w3 ⟨rfl, m3⟩; have k3 : Mod No w0 w3 := Mod.trans k2 m3; obtain ⟨c3, d3, t3⟩ := HRD.out w3 k3; clear m3) | fail)
    go_ret
    exact ⟨rfl, HM0.out.trans k3⟩

end Go.Proofs.Ytcnemhhbihhcfaa
