/-
  MgR in one text (pack.py).
-/
import Derived.Test.YtpkieilmlnlpkaaGreatW9
namespace Go.Proofs.YtpkieilmlnlpkaaGreat

section
attribute [local go_sem] stPair gtPair gtK8 gtM6 run_store_func run_store_nilFunc
attribute [local go_sem high] neqPair eqK8 eqM6
attribute [local go_sem ↓] load_fold store_fold alloc_fold slice_op_fold con_load_fold chg_load_fold ten_zero_fold con_alloc_fold con_store_fold con_zero_fold chg_alloc_fold chg_store_fold chg_zero_fold chg_put_fold macLoad_fold macStore_fold keyLoad_fold keyStore_fold chg_make_fold chg_slice_fold askLoad_fold askStore_fold askAlloc_fold askBox_fold askZero_fold reqLoad_fold reqStore_fold reqAlloc_fold reqBox_fold reqZero_fold askPut_fold reqPut_fold
open Go.RowKit
set_option linter.unusedVariables false
def askPut6 (k o v ch c n : Value) : Sem Value := Instr.build 45 #[(0, k), (1, o), (2, v), (3, ch), (4, c), (5, n)]
theorem askPut6_fold (ρ : Operand → Value) (x0 x1 x2 x3 x4 x5 : Operand) (dst : Option Tmp) (ty : TypeId) (pos : String) (after : Array Edge) (g : Option (Nat × Bool)) :
    execOp ρ { dst := dst, op := .build 45 #[(0, x0), (1, x1), (2, x2), (3, x3), (4, x4), (5, x5)], type := ty, pos := pos, after := after, guard := g } = (do pure (Next.value (← askPut6 (ρ x0) (ρ x1) (ρ x2) (ρ x3) (ρ x4) (ρ x5))) : Sem Next) := by
  show (do pure (Next.value (← Instr.build 45 (#[(0, x0), (1, x1), (2, x2), (3, x3), (4, x4), (5, x5)].map fun (i, x) => (i, ρ x)))) : Sem Next) = _
  have hm : (#[((0 : Nat), x0), (1, x1), (2, x2), (3, x3), (4, x4), (5, x5)].map fun (i, x) => (i, ρ x)) = #[(0, ρ x0), (1, ρ x1), (2, ρ x2), (3, ρ x3), (4, ρ x4), (5, ρ x5)] := by simp
  rw [hm]
  rfl
attribute [local go_sem ↓] askPut6_fold
def reqPut6 (k o v ch c n : Value) : Sem Value := Instr.build 48 #[(0, k), (1, o), (2, v), (3, ch), (4, c), (5, n)]
theorem reqPut6_fold (ρ : Operand → Value) (x0 x1 x2 x3 x4 x5 : Operand) (dst : Option Tmp) (ty : TypeId) (pos : String) (after : Array Edge) (g : Option (Nat × Bool)) :
    execOp ρ { dst := dst, op := .build 48 #[(0, x0), (1, x1), (2, x2), (3, x3), (4, x4), (5, x5)], type := ty, pos := pos, after := after, guard := g } = (do pure (Next.value (← reqPut6 (ρ x0) (ρ x1) (ρ x2) (ρ x3) (ρ x4) (ρ x5))) : Sem Next) := by
  show (do pure (Next.value (← Instr.build 48 (#[(0, x0), (1, x1), (2, x2), (3, x3), (4, x4), (5, x5)].map fun (i, x) => (i, ρ x)))) : Sem Next) = _
  have hm : (#[((0 : Nat), x0), (1, x1), (2, x2), (3, x3), (4, x4), (5, x5)].map fun (i, x) => (i, ρ x)) = #[(0, ρ x0), (1, ρ x1), (2, ρ x2), (3, ρ x3), (4, ρ x4), (5, ρ x5)] := by simp
  rw [hm]
  rfl
attribute [local go_sem ↓] reqPut6_fold
set_option maxRecDepth 100000 in
theorem askPut6_run (a : AskW) (W : World) : (askPut6 (.agg (bcells a.key.l).toArray) (.int .i64 a.op) (.int .u64 a.ver) (.agg (cChg a.put a.cn a.x)) (.agg (a.c.cells (.slice a.P a.l.length a.p))) (.string (str a.nm))).run Tryz.prog W = .ok (.agg a.d.cells.toArray) W := by kernel_rfl
set_option maxRecDepth 100000 in
theorem reqPut6_run (a : AskW) (W : World) : (reqPut6 (.agg (bcells a.key.l).toArray) (.int .i64 a.op) (.int .u64 a.ver) (.agg (cChg a.put a.cn a.x)) (.agg (a.c.cells (.slice a.P a.l.length a.p))) (.string (str a.nm))).run Tryz.prog W = .ok (.agg a.d.cells.toArray) W := by kernel_rfl
theorem box_key (CA : Array Value) (h : CA.size = 8) : ∀ W, (Instr.box 22 (.agg CA)).run Tryz.prog W = .ok (.pointer (some ⟨W.heap.size, 0, none⟩)) (W.alloc (.cells CA 22)) := by
  intro W
  go_simp
theorem refBytes_any {w : World} (a : AskW) (h : a.Ok w) : Calls Tryz.prog 8 #[.agg a.d.cells.toArray] w (BytesQ a.may a.bytes w) := by
  cases hm : a.may with
  | true => exact refBytes_ok a h hm
  | false => exact refBytes_no a h hm
set_option maxRecDepth 100000 in
set_option maxHeartbeats 2000000 in
theorem mgmtWrites_walk {w : World} (key : K8) (op : Int) (ver : Nat) (put : Bool) (cn : List UInt8) (x : TV) (hx : x.Open w) (c : Con) (A : Option Addr) (k : Nat) (l : List TV) (hip : c.ip < 4294967296) (hdr : c.drain < 4294967296) (hl63 : l.length ≤ 9223372036854775807) (hrow : RowAt (fun _ => True) w A (tvCells l)) (hlo : ∀ y ∈ l, y.Open w) (nm : List UInt8) :
    Calls Tryz.prog 3 #[.agg (bcells key.l).toArray, .int .i64 op, .int .u64 (ver : Int), .agg (cChg put cn x), .agg (c.cells (.slice A l.length k)), .string (str nm)] w fun e w' => e = .returned (.bool true) ∧ Mod No w w' := by
  obtain ⟨a, ha⟩ : ∃ a : AskW, a = ⟨key, op, ver, put, cn, x, c, A, k, l, nm⟩ := ⟨_, rfl⟩
  have p6 := askPut6_run a
  have r6 := reqPut6_run a
  rw [ha] at p6 r6
  simp only at p6 r6
  rw [← ha] at p6 r6
  obtain ⟨K, hK⟩ : ∃ K, K = (bcells key.l).toArray := ⟨_, rfl⟩
  obtain ⟨CA, hCA⟩ : ∃ CA, CA = c.cells (.slice A l.length k) := ⟨_, rfl⟩
  obtain ⟨CB, hCB⟩ : ∃ CB, CB = cChg put cn x := ⟨_, rfl⟩
  obtain ⟨TA, hTA⟩ : ∃ TA, TA = x.cells.toArray := ⟨_, rfl⟩
  rw [← hK, ← hCA, ← hCB] at p6 r6
  have bK := box_key K (by rw [hK]; rfl)
  have bA := box_con CA (by rw [hCA]; rfl)
  have bB := box_chg CB (by rw [hCB]; exact cChg_size _ _ _)
  obtain ⟨w0, hw0⟩ : ∃ w0, w0 = ((w.alloc (.cells K 22)).alloc (.cells CB 33)).alloc (.cells CA 36) := ⟨_, rfl⟩
  have hm0 : Mod No w w0 := by rw [hw0]; exact (((Mod.refl _ _).alloc _).alloc _).alloc _
  have hK0 : w0.heap[w.heap.size]? = some (.cells K 22 (0, 0)) := by rw [hw0]; exact at30 w _ _ _
  have hB0 : w0.heap[w.heap.size + 1]? = some (.cells CB 33 (0, 0)) := by rw [hw0]; exact at31 w _ _ _
  have hA0 : w0.heap[w.heap.size + 1 + 1]? = some (.cells CA 36 (0, 0)) := by rw [hw0]; exact at32 w _ _ _
  have hrd : ∀ W, Mod No w0 W → W.cell? ⟨w.heap.size + 1 + 1, 28, none⟩ = some (.slice A l.length k) ∧ W.cell? ⟨w.heap.size + 1, 1, none⟩ = some (.string (str cn)) ∧ (tenLoad (.pointer (some ⟨w.heap.size + 1, 2, none⟩))).run Tryz.prog W = .ok (.agg TA) W ∧ (keyLoad (.pointer (some ⟨w.heap.size, 0, none⟩))).run Tryz.prog W = .ok (.agg K) W ∧ (conLoad (.pointer (some ⟨w.heap.size + 1 + 1, 0, none⟩))).run Tryz.prog W = .ok (.agg CA) W ∧ (chgLoad (.pointer (some ⟨w.heap.size + 1, 0, none⟩))).run Tryz.prog W = .ok (.agg CB) W := fun W hW => by
    have h1 := hW.obj hA0 id
    have h2 := hW.obj hB0 id
    have h3 := hW.obj hK0 id
    refine ⟨by rw [blk_cell h1, hCA]; rfl, by rw [blk_cell h2, hCB]; exact cChg1 _ _ _, ?_, keyLoad_run h3 (by rw [hK]; rfl), conLoad_run h1 (by rw [hCA]; rfl), chgLoad_run h2 (by rw [hCB]; exact cChg_size _ _ _)⟩
    rw [hTA]
    rw [hCB] at h2
    exact chgTen_run h2
  have hkp : ∀ W, Mod No w0 W → Keeps (fun _ => True) w W := fun W hW => (hm0.trans hW).keeps (fun _ _ _ f => f)
  obtain ⟨r1, hr1⟩ : ∃ r1, r1 = lights l 5 := ⟨_, rfl⟩
  obtain ⟨r2, hr2⟩ : ∃ r2, r2 = light x.t := ⟨_, rfl⟩
  have hK1 : ∀ W, Mod No w0 W → Calls Tryz.prog 5 #[.slice A l.length k, .int .i64 5] W fun e w' => e = .returned (.bool r1) ∧ Mod No W w' := fun W hW => by
    rw [hr1]
    refine lights_ok l 5 (by decide) hl63 (hrow.keeps (hkp W hW)) (fun y hy => ⟨(hlo y hy).rows.keeps (hkp W hW), (hlo y hy).wf⟩)
  have hK2 : ∀ W, Mod No w0 W → Calls Tryz.prog 6 #[.agg TA] W fun e w' => e = .returned (.bool r2) ∧ Mod No W w' := fun W hW => by
    rw [hr2, hTA]
    exact light_ok x.t _ (hx.val.keeps (hkp W hW))
  have hAOk : r1 = true → r2 = true → cn.length ≤ 300 → nm.length ≤ 300 → ∀ W, Mod No w0 W → a.Ok W := by
    intro e1 e2 hc1 hc2 W hW
    obtain ⟨l1, l2⟩ := lights_of (hr1.symm.trans e1)
    have lx := light_of (hr2.symm.trans e2)
    rw [ha]
    exact ⟨TV.Open.here ⟨hx.rows.keeps (hkp W hW), hx.wf⟩, hx.wf.ok, lx, hc1, hc2, hip, hdr, (hrow.keeps (hkp W hW)).mono (fun b hb _ => hb), l1, fun y hy => ⟨(hlo y hy).wf.ok, TV.Open.here ⟨(hlo y hy).rows.keeps (hkp W hW), (hlo y hy).wf⟩, light_of (l2 y hy)⟩⟩
  obtain ⟨n, hn⟩ : ∃ n, n = l.length := ⟨_, rfl⟩
  obtain ⟨m, hm⟩ : ∃ m, m = cn.length := ⟨_, rfl⟩
  obtain ⟨q, hq⟩ : ∃ q, q = nm.length := ⟨_, rfl⟩
  have hss : (str cn).size = m := by rw [str_size, hm]
  have hsq : (str nm).size = q := by rw [str_size, hq]
  rw [← hn] at hrd hK1
  rw [← hm, ← hq] at hAOk
  rw [← hK, ← hCA, ← hCB]
  obtain ⟨AA, hAA⟩ : ∃ AA, AA = a.d.cells.toArray := ⟨_, rfl⟩
  rw [← hAA] at p6 r6
  have HRD := Lib.hid hrd
  have HK1 := Lib.hid hK1
  have HK2 := Lib.hid hK2
  have HOK := Lib.hid hAOk
  have HM0 := Lib.hid hm0
  have HW0 := Lib.hid hw0
  have HAA := Lib.hid hAA
  have HKN := Lib.hid known24
  clear hrd hK1 hK2 hAOk hm0 hw0 hkp hrow hlo hx hA0 hB0 hK0 hCA hCB hTA hK hr1 hr2 hn hm hq hip hdr hl63 ha hAA
  go_enter Tryz.func3, Tryz.ntmps3
  go_wp2_with fail
  rw [← HW0.out]
  refine (HKN.out w0).mono ?_
  rintro e w1 ⟨rfl, k1⟩
  obtain ⟨c1, d1, t1, _, _, _⟩ := HRD.out w1 k1
  cases r1
  · go_wp2_with (first | (go_at_call 5; refine (HK1.out _ k1).mono ?_; rintro e w2 ⟨rfl, m2⟩; have H2 := Lib.hid m2; clear m2) | fail)
    go_ret
    exact ⟨rfl, (HM0.out.trans k1).trans H2.out⟩
  cases r2
  · go_wp2_with (first | (go_at_call 5; refine (HK1.out _ k1).mono ?_; rintro e w2 ⟨rfl, m2⟩; have k2 : Mod No w0 w2 := Mod.trans k1 m2; obtain ⟨c2, d2, t2, _, _, _⟩ := HRD.out w2 k2; clear m2) | (go_at_call 6; refine (HK2.out _ k2).mono ?_; rintro e w3 ⟨rfl, m3⟩; have k3 : Mod No w0 w3 := Mod.trans k2 m3; obtain ⟨c3, d3, t3, y3, z3, u3⟩ := HRD.out w3 k3; clear m3) | fail)
    go_ret
    exact ⟨rfl, HM0.out.trans k3⟩
  by_cases hq300 : 300 < q
  · have p3 : decide ((300 : Int) < q) = true := by rw [decide_eq_true_eq]; omega
    go_wp2_with (first | (go_at_call 5; refine (HK1.out _ k1).mono ?_; rintro e w2 ⟨rfl, m2⟩; have k2 : Mod No w0 w2 := Mod.trans k1 m2; obtain ⟨c2, d2, t2, _, _, _⟩ := HRD.out w2 k2; clear m2) | (go_at_call 6; refine (HK2.out _ k2).mono ?_; rintro e w3 ⟨rfl, m3⟩; have k3 : Mod No w0 w3 := Mod.trans k2 m3; obtain ⟨c3, d3, t3, y3, z3, u3⟩ := HRD.out w3 k3; clear m3) | fail)
    go_ret
    exact ⟨rfl, HM0.out.trans k3⟩
  by_cases hm300 : 300 < m
  · have p3 : decide ((300 : Int) < q) = false := by rw [decide_eq_false_iff_not]; omega
    have p4 : decide ((300 : Int) < m) = true := by rw [decide_eq_true_eq]; omega
    go_wp2_with (first | (go_at_call 5; refine (HK1.out _ k1).mono ?_; rintro e w2 ⟨rfl, m2⟩; have k2 : Mod No w0 w2 := Mod.trans k1 m2; obtain ⟨c2, d2, t2, _, _, _⟩ := HRD.out w2 k2; clear m2) | (go_at_call 6; refine (HK2.out _ k2).mono ?_; rintro e w3 ⟨rfl, m3⟩; have k3 : Mod No w0 w3 := Mod.trans k2 m3; obtain ⟨c3, d3, t3, y3, z3, u3⟩ := HRD.out w3 k3; clear m3) | fail)
    go_ret
    exact ⟨rfl, HM0.out.trans k3⟩
  have p3 : decide ((300 : Int) < q) = false := by rw [decide_eq_false_iff_not]; omega
  have p4 : decide ((300 : Int) < m) = false := by rw [decide_eq_false_iff_not]; omega
  have HOKK := Lib.hid (HOK.out rfl rfl (by omega) (by omega))
  clear HOK hq300 hm300
  go_upto_region 5 with (first | (go_at_call 5; refine (HK1.out _ k1).mono ?_; rintro e w2 ⟨rfl, m2⟩; have k2 : Mod No w0 w2 := Mod.trans k1 m2; obtain ⟨c2, d2, t2, _, _, _⟩ := HRD.out w2 k2; clear m2) | (go_at_call 6; refine (HK2.out _ k2).mono ?_; rintro e w3 ⟨rfl, m3⟩; have k3 : Mod No w0 w3 := Mod.trans k2 m3; obtain ⟨c3, d3, t3, y3, z3, u3⟩ := HRD.out w3 k3; clear m3) | fail)
  have K3 := Lib.hid k3
  have hB1 := bytes_any a (HOKK.out w3 k3)
  rw [← HAA.out] at hB1
  obtain ⟨mm, hmm⟩ : ∃ mm, mm = a.may := ⟨_, rfl⟩
  rw [← hmm] at hB1
  have HB1 := Lib.hid hB1
  have HMM := Lib.hid hmm
  clear hB1 hmm c1 d1 t1 c2 d2 t2 c3 d3 t3 k1 k2 k3
  cases mm with
  | false =>
    go_upto_region 6 with (first | (go_at_call 7; refine HB1.out.mono ?_; intro e w4 hq; obtain ⟨hm4, _, hb⟩ := hq; obtain rfl := hb rfl; have k4 := K3.out.trans hm4; obtain ⟨_, _, _, y4, z4, u4⟩ := HRD.out w4 k4; have K4 := Lib.hid k4; clear hm4 hb k4) | fail)
    have hB2 := refBytes_any a (HOKK.out w4 K4.out)
    rw [← HAA.out, ← HMM.out] at hB2
    have HB2 := Lib.hid hB2
    have HY := Lib.hid (fun W => bytes_ok (S := No) (S' := No) (w := W) none none 0 0 [] [] (.nil _ _ _) (.nil _ _ _))
    clear hB2
    go_wp2_with (first
      | (go_at_call 8; refine HB2.out.mono ?_; intro e w5 hq; obtain ⟨hm5, _, hb⟩ := hq; obtain rfl := hb rfl; have K5 := Lib.hid (K4.out.trans hm5); clear hm5 hb)
      | (go_at_call 9; refine (HY.out _).mono ?_; rintro e w6 ⟨rfl, rfl⟩)
      | fail)
    go_ret
    exact ⟨rfl, HM0.out.trans K5.out⟩
  | true =>
    go_upto_region 6 with (first | (go_at_call 7; refine HB1.out.mono ?_; intro e w4 hq; obtain ⟨hm4, hb, _⟩ := hq; obtain ⟨v4, rfl, ho4⟩ := hb rfl; have k4 := K3.out.trans hm4; obtain ⟨_, _, _, y4, z4, u4⟩ := HRD.out w4 k4; have K4 := Lib.hid (And.intro k4 ho4); clear hm4 hb k4 ho4) | fail)
    have hB2 := refBytes_any a (HOKK.out w4 K4.out.1)
    rw [← HAA.out, ← HMM.out] at hB2
    have HB2 := Lib.hid hB2
    clear hB2
    obtain ⟨A4, c4, rfl, hc4, hr4⟩ := OwnB.open K4.out.2
    obtain ⟨D, hD⟩ : ∃ D, D = a.bytes := ⟨_, rfl⟩
    have hDl : D.length ≤ 1000009 := by
      have := AskW.rest_le (HOKK.out w4 K4.out.1)
      rw [hD, AskW.bytes, List.length_append, List.length_cons]
      show 8 + _ ≤ _
      omega
    rw [← hD] at hc4 hr4 HB2
    rw [← hD]
    have hrw : ∀ W, Mod No w4 W → RowAt (fun b => b < w4.heap.size) W A4 (bcells D) := fun W hW => (hr4.mono (S' := fun b => b < w4.heap.size) (fun b hb _ => hb)).keeps (hW.keeps (fun _ _ _ f => f))
    obtain ⟨r, ky, o, err, hN, hsm, herr⟩ := readN_calls (r := mread D) (key := mkey D) (op := mop D)
    have hct := hsm (mread_small D)
    have hRD : ∀ W, Mod No w4 W → Calls Tryz.prog 10 #[.slice A4 D.length c4] W (ReadN r ky o err W) ∧ Calls Tryz.prog 11 #[.slice A4 D.length c4] W (ReadN r ky o err W) := fun W hW => by
      have hr := (hrw W hW).mono (S' := fun b => b < W.heap.size) (fun b hb _ => hb)
      exact ⟨hN _ _ _ (mread_ok D hr hc4 (by omega)), hN _ _ _ (rread_ok D hr hc4 (by omega))⟩
    have hBY : ∀ W A5 c5, Mod No w4 W → RowAt (fun b => w4.heap.size ≤ b) W A5 (bcells D) → Calls Tryz.prog 9 #[.slice A4 D.length c4, .slice A5 D.length c5] W fun e w' => e = .returned (.bool true) ∧ w' = W := fun W A5 c5 hW h5 => by
      have := bytes_ok A4 A5 c4 c5 D D (hrw W hW) h5
      rw [decide_eq_true rfl] at this
      exact this
    obtain ⟨d, hd⟩ : ∃ d, d = D.length := ⟨_, rfl⟩
    rw [← hd] at hRD hBY
    have HRR := Lib.hid hRD
    have HBY := Lib.hid hBY
    have HS := Lib.hid hct
    have HD := Lib.hid hd
    rw [← hd]
    have hao := askAlloc_run
    have har := reqAlloc_run
    clear hc4 hr4 hD hDl hrw hN hsm herr hct hRD hBY hd
    go_upto_region 11 with (first
      | (go_at_call 8; refine HB2.out.mono ?_; intro e w5 hq; obtain ⟨hm5, hb, _⟩ := hq; obtain ⟨v5, rfl, ho5⟩ := hb rfl; obtain ⟨A5, c5, rfl, _, hr5⟩ := OwnB.open ho5; have hdd := HD.out; rw [← hdd]; have HY := Lib.hid (HBY.out w5 A5 c5 hm5 hr5); have K5 := Lib.hid hm5; clear hm5 hb ho5 hr5 hdd)
      | (go_at_call 9; refine HY.out.mono ?_; rintro e w6 ⟨rfl, rfl⟩)
      | fail)
    have K5' := K5.out
    have HC1 := Lib.hid (HRR.out _ K5').1
    go_upto_region 12 with (first | (go_at_call 10; refine HC1.out.mono ?_; rintro e v1 ⟨C1, x1, Q1, q1, rfl, a1, a2, a3, a4, a5, a6⟩; have hst := askStore_nw v1 C1 a5 a6; have HN1 := Lib.hid (And.intro a1 (And.intro a2 (And.intro a3 (And.intro a4 (And.intro a5 a6))))); clear a1 a2 a3 a4 a5 a6) | fail)
    refine grab_world fun V1 hV1 => ?_
    have m' : Mod No v1 V1 := by rw [hV1]; exact (Mod.refl _ _).alloc _
    have HB1 := Lib.hid (And.intro (show V1.heap[v1.heap.size]? = some (.cells C1 45 (0, 0)) by rw [hV1]; exact at10 _ _) m')
    have M1 := Lib.hid ((K5'.trans HN1.out.2.2.2.1).trans m')
    clear hV1 m' hst HC1
    have HC2 := Lib.hid (HRR.out V1 M1.out).2
    go_upto_region 13 with (first | (go_at_call 11; refine HC2.out.mono ?_; rintro e v2 ⟨C2, x2, Q2, q2, rfl, a1, a2, a3, a4, a5, a6⟩; have hst := reqStore_nw v2 C2 a5 a6; have HN2 := Lib.hid (And.intro a1 (And.intro a2 (And.intro a3 (And.intro a4 (And.intro a5 a6))))); clear a1 a2 a3 a4 a5 a6) | fail)
    refine grab_world fun V2 hV2 => ?_
    have m' : Mod No v2 V2 := by rw [hV2]; exact (Mod.refl _ _).alloc _
    have HB2 := Lib.hid (And.intro (show V2.heap[v2.heap.size]? = some (.cells C2 48 (0, 0)) by rw [hV2]; exact at10 _ _) m')
    have M2 := Lib.hid ((M1.out.trans HN2.out.2.2.2.1).trans m')
    clear hV2 m' hst HC2
    have T1 : Mod No V1 V2 := HN2.out.2.2.2.1.trans HB2.out.2
    have ld1 := askLoad_run (T1.obj HB1.out.1 id) HN1.out.2.2.2.2.1
    have ld2 := reqLoad_run HB2.out.1 HN2.out.2.2.2.2.1
    have HSM := Lib.hid (show Calls Tryz.prog 12 #[.agg C1, .agg C2] V2 fun e w' => e = .returned (.bool true) ∧ Mod No V2 w' by
      rw [HN1.out.1, HN2.out.1]
      have k1 := HN1.out.2.2.1.keeps (HB1.out.2.keeps (fun _ _ _ f => f))
      have k2 := k1.keeps (T1.keeps (fun _ _ _ f => f))
      have k3 := HN2.out.2.2.1.keeps (HB2.out.2.keeps (fun _ _ _ f => f))
      exact same_true (askIs_of r ky o Q1 q1 k2) (askIs_of r ky o Q2 q2 k3) k2 k3 (by rw [HN1.out.2.1, HN2.out.2.1]) (by rw [HN2.out.2.1]; exact HS.out))
    have z1 : ((err : Int) == err) = true := by simp
    clear T1
    go_wp2_with (first | (go_at_call 12; refine HSM.out.mono ?_; rintro e u1 ⟨rfl, n1⟩; have N1 := Lib.hid n1; clear n1) | fail)
    go_ret
    exact ⟨rfl, ((HM0.out.trans K4.out.1).trans M2.out).trans N1.out⟩
end

end Go.Proofs.YtpkieilmlnlpkaaGreat
