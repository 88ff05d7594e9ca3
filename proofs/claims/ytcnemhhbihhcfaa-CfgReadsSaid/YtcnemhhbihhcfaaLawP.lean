/-
  The law CfgParts, walked.
-/
import Derived.Test.YtcnemhhbihhcfaaLawC
namespace Go.Proofs.Ytcnemhhbihhcfaa
open Go.RowKit
set_option linter.unusedVariables false

theorem own_tail (n c at_ : Nat) (A : Option Addr) (h1 : at_ ≤ n) (h2 : n ≤ c) :
    ∃ A', (∀ W, (Instr.slice 34 (.slice A n c) (some (.int .i64 (at_ : Int))) none none).run Try.prog W = .ok (.slice A' (n - at_) (c - at_)) W) ∧ ∀ (S : Nat → Prop) (w : World) (cs : List Value), RowAt S w A cs → RowAt S w A' ((cs.drop at_).take (n - at_)) := by
  obtain ⟨A', e, r⟩ := own_row_bytes n c at_ (n - at_) A (by omega) h2
  have he : Try.prog.elem 34 = 5 := by kernel_rfl
  refine ⟨A', fun W => ?_, r⟩
  rw [← e W, run_slice_l (P := Try.prog) W 34 A n c (by rw [he]; exact Try.underlying34) .i64 (at_ : Int) (by omega) (by omega), run_slice_lh (P := Try.prog) W 34 A n c (by rw [he]; exact Try.underlying34) .i64 .i64 (at_ : Int) ((at_ : Int) + ((n - at_ : Nat) : Int)) (by omega) (by omega) (by omega)]
  have : ((at_ : Int) + ((n - at_ : Nat) : Int)).toNat = n := by omega
  rw [this]
/-- Settings' bytes: a head of one length, then the tenants. -/
theorem wcon_len (c : Con) (l : List TV) (h : l.length ≤ 255) : ∃ H, wcon c l = H ++ wtens l ∧ H.length = (wcon c []).length ∧ H.length ≤ 100 := by
  refine ⟨be 4 c.ip ++ c.mac.l ++ c.omac.l ++ c.nmac.l ++ c.key.l ++ be 4 c.drain ++ be 1 (min l.length 255), ?_, ?_, ?_⟩
  · simp [wcon, cfields, List.take_of_length_le h]
  · simp [wcon, cfields, be_length, wtens, K8.l, M6.l]
  · simp [be_length, K8.l, M6.l]
theorem con_list_set (c : Con) (vt v : Value) : (c.cells vt).setIfInBounds 28 v = c.cells v := by
  apply Array.toList_inj.1
  simp only [Array.toList_setIfInBounds]
  rfl
theorem tenant_same {S S' : Nat → Prop} {w : World} {x y : TV} (hx : x.Rows S w) (hy : y.Rows S' w) (e : x.t = y.t) (h1 : y.t.pool.length ≤ 300) (h2 : y.t.statics.length ≤ 300) (h3 : y.t.twices.length ≤ 300) :
    Calls Try.prog 12 #[.agg x.cells.toArray, .agg y.cells.toArray] w fun e w' => e = .returned (.bool true) ∧ Mod No w w' := by
  have val : ∀ {S : Nat → Prop} {x : TV}, x.Rows S w → TenV S w x.t (.agg x.cells.toArray) := by
    intro S x h
    obtain ⟨P, p, Q, q, R, r, e1, e2, e3, r1, r2, r3⟩ := h
    exact ⟨P, p, Q, q, R, r, by simp [TV.cells, e1, e2, e3], r1, r2, r3⟩
  have h := tenant_ok x.t y.t _ _ (val hx) (val hy) (by rw [e]; omega) (by rw [e]; omega) (by rw [e]; omega)
  rw [e, decide_eq_true rfl] at h
  exact h

set_option maxRecDepth 100000 in
set_option maxHeartbeats 4000000 in
theorem cfgParts_walk {w : World} (A : Option Addr) (k : Nat) (l : List TV) (hl63 : l.length ≤ 9223372036854775807) (hrow : RowAt (fun _ => True) w A (tvCells l)) (hlo : ∀ x ∈ l, x.Open w)
    (c : Con) (vt0 : Value) (hip : c.ip < 4294967296) (hdr : c.drain < 4294967296) :
    Calls Try.prog 6 #[.slice A l.length k, .agg (c.cells vt0)] w fun e w' => e = .returned (.bool true) ∧ Mod No w w' := by
  obtain ⟨CA, hCA⟩ : ∃ CA, CA = c.cells vt0 := ⟨_, rfl⟩
  have bA := box_con CA (by rw [hCA]; rfl)
  obtain ⟨w0, hw0⟩ : ∃ w0, w0 = w.alloc (.cells CA 48) := ⟨_, rfl⟩
  have hm0 : Mod No w w0 := by rw [hw0]; exact (Mod.refl _ _).alloc _
  have hb0 : w0.heap[w.heap.size]? = some (.cells (c.cells vt0) 48 (0, 0)) := by rw [hw0, hCA]; exact at10 w _
  have hkp : ∀ W, Mod (fun b => b = w.heap.size) w0 W → Keeps (fun b => b < w.heap.size) w W := fun W hW => (hm0.mono (fun _ f => f.elim)).trans hW |>.keeps (fun b _ hb f => by omega)
  have hrow' := hrow.mono (S' := fun b => b < w.heap.size) (fun b hb _ => hb)
  have hlo' : ∀ x ∈ l, x.Rows (fun b => b < w.heap.size) w ∧ x.t.wf := fun x hx => ⟨(hlo x hx).here, (hlo x hx).wf⟩
  obtain ⟨r1, hr1⟩ : ∃ r1, r1 = lights l 8 := ⟨_, rfl⟩
  have hK1 : ∀ W, Mod No w0 W → Calls Try.prog 19 #[.slice A l.length k, .int .i64 8] W fun e w' => e = .returned (.bool r1) ∧ Mod No W w' := fun W hW => by
    have hk : Keeps (fun _ => True) w W := (hm0.trans hW).keeps (fun _ _ _ f => f)
    rw [hr1]
    exact lights_ok l 8 (by decide) hl63 (hrow.keeps hk) (fun y hy => ⟨(hlo y hy).rows.keeps hk, (hlo y hy).wf⟩)
  have hcf : r1 = true → ∀ W, Mod (fun b => b = w.heap.size) w0 W → (Calls Try.prog 21 #[.agg (c.cells (.slice A l.length k))] W fun e w' => ∃ v, e = .returned v ∧ OwnB w' W.heap.size v (wcon c l) ∧ Mod No W w') ∧
      (Calls Try.prog 21 #[.agg (c.cells (.slice none 0 0))] W fun e w' => ∃ v, e = .returned v ∧ OwnB w' W.heap.size v (wcon c []) ∧ Mod No W w') := fun e1 W hW => by
    have hz : w.heap.size ≤ W.heap.size := Nat.le_trans hm0.size hW.size
    obtain ⟨l1, l2⟩ := lights_of (hr1.symm.trans e1)
    exact ⟨cfgConfig_ok c _ l hip hdr ⟨A, k, rfl, (hrow'.keeps (hkp W hW)).mono (fun b _ hb => by omega)⟩ (fun y hy => ⟨(hlo' y hy).2.ok, by have := (light_of (l2 y hy)).1; omega, ((hlo' y hy).1.keeps (hkp W hW)).imp (fun b hb => by omega)⟩),
      cfgConfig_ok c _ [] hip hdr ⟨none, 0, rfl, .nil _ _ _⟩ (by simp)⟩
  obtain ⟨X, hX⟩ : ∃ X, X = wcon c l := ⟨_, rfl⟩
  obtain ⟨n, hn⟩ : ∃ n, n = l.length := ⟨_, rfl⟩
  rw [← hX] at hcf
  rw [← hn] at hK1 hcf
  rw [← hCA, ← hn]
  have hset1 : ∀ W : World, W.heap[w.heap.size]? = some (.cells (c.cells vt0) 48 (0, 0)) → (W.setCell ⟨w.heap.size, 28, none⟩ (.slice A n k)).heap[w.heap.size]? = some (.cells (c.cells (.slice A n k)) 48 (0, 0)) := fun W h => by rw [heap_setCell_row h, con_list_set]
  have hset2 : ∀ W : World, W.heap[w.heap.size]? = some (.cells (c.cells (.slice A n k)) 48 (0, 0)) → (W.setCell ⟨w.heap.size, 28, none⟩ (.slice none 0 0)).heap[w.heap.size]? = some (.cells (c.cells (.slice none 0 0)) 48 (0, 0)) := fun W h => by rw [heap_setCell_row h, con_list_set]
  obtain ⟨C1, hC1⟩ : ∃ C1, C1 = c.cells (.slice A n k) := ⟨_, rfl⟩
  obtain ⟨C2, hC2⟩ : ∃ C2, C2 = c.cells (.slice none 0 0) := ⟨_, rfl⟩
  have hc28 : (c.cells vt0)[28]? = some vt0 := rfl
  have hc28' : C1[28]? = some (.slice A n k) := by rw [hC1]; rfl
  have hs1 : C1.size = 29 := by rw [hC1]; rfl
  have hs2 : C2.size = 29 := by rw [hC2]; rfl
  rw [← hC1] at hset1 hset2 hcf
  rw [← hC2] at hset2 hcf
  rw [← hCA] at hb0 hset1 hc28
  have HK1 := Lib.hid hK1
  have HCF := Lib.hid hcf
  have HM0 := Lib.hid hm0
  have HW0 := Lib.hid hw0
  have HS := Lib.hid (And.intro hset1 (And.intro hset2 (And.intro hc28 (And.intro hc28' (And.intro hs1 (And.intro hs2 hb0))))))
  have HL := Lib.hid (And.intro hr1 (And.intro hX (And.intro hn (And.intro hrow' (And.intro hlo' hkp)))))
  have HKN := Lib.hid known_ok
  have hal := tenAlloc_run
  clear hK1 hcf hm0 hw0 hrow hrow' hlo hlo' hkp hset1 hset2 hc28 hc28' hs1 hs2 hb0 hr1 hX hn hCA hC1 hC2 hip hdr
  have pn63 : n ≤ 9223372036854775807 := by rw [HL.out.2.2.1]; exact hl63
  clear hl63
  go_enter Try.func6, Try.ntmps6
  go_wp2_with fail
  rw [← HW0.out]
  refine (HKN.out w0).mono ?_
  rintro e w1 ⟨rfl, k1⟩
  go_wp2_with fail
  refine (HK1.out _ k1).mono ?_
  rintro e w2 ⟨rfl, m2⟩
  have k2 : Mod No w0 w2 := Mod.trans k1 m2
  clear m2 k1
  cases r1
  · go_wp2
    go_ret
    exact ⟨rfl, HM0.out.trans k2⟩
  have hb2 := k2.obj HS.out.2.2.2.2.2.2 id
  have d2 : w2.cell? ⟨w.heap.size, 28, none⟩ = some vt0 := (blk_cell hb2 28).trans HS.out.2.2.1
  have f2 := blk_free hb2 28
  have hb3 := HS.out.1 _ hb2
  have k3 : Mod (fun b => b = w.heap.size) w0 (w2.setCell ⟨w.heap.size, 28, none⟩ (.slice A n k)) := Mod.setCell (F := fun b => b = w.heap.size) (p := ⟨w.heap.size, 28, none⟩) (k2.mono (fun _ f => f.elim)) (.inr rfl) _
  have hld := conLoad_run hb3 HS.out.2.2.2.2.1
  have hcall := (HCF.out (by simp) _ k3).1
  have HC3 := Lib.hid (And.intro hb3 (And.intro k3 hcall))
  clear hb2 hb3 k3 k2 hcall
  go_wp2_with fail
  refine HC3.out.2.2.mono ?_
  rintro e w4 ⟨v4, rfl, o4, m4⟩
  obtain ⟨l1, l2⟩ := lights_of HL.out.1.symm
  have hn8 : n ≤ 8 := by rw [HL.out.2.2.1]; exact l1
  obtain ⟨H, hH, hHl, hH8⟩ := wcon_len c l (by omega)
  have hXl : X.length ≤ 1000000 := by
    have h1 := wtens_len l
    have h2 : l.length * 40000 ≤ 8 * 40000 := Nat.mul_le_mul_right _ l1
    rw [HL.out.2.1, hH, List.length_append]
    omega
  have hXn : X ≠ [] := by
    rw [HL.out.2.1]
    intro e
    have := congrArg List.length e
    simp [wcon, cfields, be_length] at this
  obtain ⟨g4, c4, rfl, hg4, _, hc4, cell4⟩ := OwnB.at o4 hXn
  have hb4 := m4.obj HC3.out.1 id
  have d4 : w4.cell? ⟨w.heap.size, 28, none⟩ = some (.slice A n k) := (blk_cell hb4 28).trans HS.out.2.2.2.1
  have f4 := blk_free hb4 28
  have hb5 := HS.out.2.1 _ hb4
  have k5 : Mod (fun b => b = w.heap.size) w0 (w4.setCell ⟨w.heap.size, 28, none⟩ (.slice none 0 0)) := Mod.setCell (F := fun b => b = w.heap.size) (p := ⟨w.heap.size, 28, none⟩) (HC3.out.2.1.trans (m4.mono (fun _ f => f.elim))) (.inr rfl) _
  have hld5 := conLoad_run hb5 HS.out.2.2.2.2.2.1
  have hcall5 := (HCF.out (by simp) _ k5).2
  have hg4' : g4 ≠ w.heap.size := by
    have := HC3.out.2.1.size
    have := HM0.out.size
    have h9 := lt_of_block HC3.out.1
    omega
  have cell5 : ∀ j u, (bcells X)[j]? = some u → (w4.setCell ⟨w.heap.size, 28, none⟩ (.slice none 0 0)).cell? ⟨g4, j, none⟩ = some u := fun j u hj => (Mod.setCell (F := fun b => b = w.heap.size) (p := ⟨w.heap.size, 28, none⟩) (Mod.refl _ w4) (.inr rfl) (.slice none 0 0)).cell (cell4 j u hj) hg4'
  obtain ⟨w5, hw5⟩ : ∃ w5, w5 = w4.setCell ⟨w.heap.size, 28, none⟩ (.slice none 0 0) := ⟨_, rfl⟩
  obtain ⟨xn, hxn⟩ : ∃ xn, xn = X.length := ⟨_, rfl⟩
  have HC5 := Lib.hid (And.intro hcall5 (And.intro cell5 k5))
  have HX := Lib.hid (And.intro hH (And.intro hHl (And.intro hH8 (And.intro hXl (And.intro hXn (And.intro hc4 hxn))))))
  have HW5 := Lib.hid hw5
  clear hcall5 cell5 k5 hH hHl hH8 hXl hXn hc4 m4 o4 hb4 hb5 cell4 hg4 hg4' hld l1
  rw [← hxn]
  clear hxn hw5
  go_wp2_with fail
  refine HC5.out.1.mono ?_
  rintro e w6 ⟨v6, rfl, o6, m6⟩
  obtain ⟨a6, q6, rfl, _, _⟩ := OwnB.open o6
  obtain ⟨hd, hhd⟩ : ∃ hd, hd = (wcon c []).length := ⟨_, rfl⟩
  rw [← hhd]
  have k6 : Mod (fun b => b = w.heap.size) w0 w6 := HC5.out.2.2.trans (m6.mono (fun _ f => f.elim))
  have cell6 : ∀ W, Mod No w6 W → ∀ j u, (bcells X)[j]? = some u → W.cell? ⟨g4, j, none⟩ = some u := fun W hW j u hj => hW.cell (m6.cell (HC5.out.2.1 j u hj) id) id
  have H6 := Lib.hid (And.intro k6 (And.intro cell6 hhd))
  have HL2 := Lib.hid l2
  clear k6 cell6 hhd m6 o6 l2 hld5 d2 f2 d4 f4
  go_wp2
  go_loopw [7, 6] (fun i a wr => ∃ j : Nat, i = .int .i64 j ∧ a = .int .i64 ((hd + (wtens (l.take j)).length : Nat) : Int) ∧ j ≤ n ∧ Mod No w6 wr) (fun i _ _ => n - (intOf i).toNat)
  case atStart => exact ⟨0, rfl, by simp [wtens], by omega, Mod.refl _ _⟩
  case round =>
    obtain ⟨j, rfl, rfl, hj, hmw⟩ := hrel
    obtain ⟨ps, hps⟩ : ∃ ps, ps = hd + (wtens (l.take j)).length := ⟨_, rfl⟩
    rw [← hps]
    have hHd : hd = H.length := by rw [H6.out.2.2, HX.out.2.1]
    have hwall : wtens l = wtens (l.take j) ++ wtens (l.drop j) := by rw [wtens, wtens, wtens, ← List.flatMap_append, List.take_append_drop]
    have hXd : X.drop ps = wtens (l.drop j) := by
      rw [HL.out.2.1, HX.out.1, hps, hHd, List.drop_length_add_append, hwall, List.drop_left]
    have hpl : ps + (wtens (l.drop j)).length = X.length := by
      rw [HL.out.2.1, HX.out.1, hps, hHd, List.length_append, hwall, List.length_append]
      omega
    have HMW := Lib.hid hmw
    clear hmw
    by_cases hlt : j < n
    · obtain ⟨z, hz⟩ : ∃ z, l[j]? = some z := ⟨_, List.getElem?_eq_getElem (by have := HL.out.2.2.1; omega)⟩
      obtain ⟨hzr, hzw⟩ := HL.out.2.2.2.2.1 z (List.mem_of_getElem? hz)
      have hzl := HL2.out z (List.mem_of_getElem? hz)
      have kw : Mod (fun b => b = w.heap.size) w0 wr := H6.out.1.trans (HMW.out.mono (fun _ f => f.elim))
      have hkp := HL.out.2.2.2.2.2 _ kw
      obtain ⟨b, o', rfl, hbS, hblt, hx0⟩ := (HL.out.2.2.2.1.keeps hkp).elem TV.cells 33 TV.len (by omega) hz
      have hldz := tenLoad_mid wr b (o' + j * 33) z.cells rfl hx0
      have hF := fits_ok z ((hzr.keeps hkp).imp (S' := fun _ => True) (fun _ _ => trivial))
      have hdz : l.drop j = z :: l.drop (j + 1) := by
        obtain ⟨hlx, ex⟩ := List.getElem?_eq_some_iff.1 hz
        rw [List.drop_eq_getElem_cons hlx, ex]
      have hwz : wtens (l.drop j) = wten z.t ++ wtens (l.drop (j + 1)) := by rw [hdz]; rfl
      have hnext : hd + (wtens (l.take (j + 1))).length = ps + (wten z.t).length := by
        rw [take_snoc' hz, wtens, List.flatMap_append, List.length_append, hps]
        simp [wtens]; omega
      obtain ⟨TZ, hTZ⟩ : ∃ TZ, TZ = z.cells.toArray := ⟨_, rfl⟩
      rw [← hTZ] at hldz hF
      obtain ⟨ln, hln⟩ : ∃ ln, ln = (wten z.t).length := ⟨_, rfl⟩
      have hps1 : ps ≤ xn := by rw [HX.out.2.2.2.2.2.2]; omega
      have hps2 : ps + ln ≤ xn := by rw [HX.out.2.2.2.2.2.2]; rw [hwz, List.length_append] at hpl; omega
      have hxn6 : xn ≤ 1000000 := by rw [HX.out.2.2.2.2.2.2]; exact HX.out.2.2.2.1
      obtain ⟨A', hsl, hA'⟩ := own_tail xn c4 ps (some ⟨g4, 0, none⟩) hps1 (by rw [HX.out.2.2.2.2.2.2]; exact HX.out.2.2.2.2.2.1)
      have HF := Lib.hid hF
      have HZ := Lib.hid (And.intro hzr (And.intro hzw (And.intro hzl (And.intro hx0 (And.intro hTZ (And.intro hln (And.intro hnext (And.intro hwz (And.intro hXd (And.intro hpl (And.intro hkp hA')))))))))))
      have p1 : (0:Int) ≤ j := by omega
      have p2 : (j:Int) < n := by omega
      have p3 : decide ((xn : Int) < ps) = false := by rw [decide_eq_false_iff_not]; omega
      have p4 : (0 : Int) ≤ ps := by omega
      have p5 : (ps : Int) ≤ xn := by omega
      clear hz hzr hzw hzl hkp hx0 hF hdz hwz hnext hTZ hln hXd hpl hwall hps hA' hHd
      go_wp2_with fail
      refine HF.out.mono ?_
      rintro e w7 ⟨b7, rfl, hb7, m7⟩
      cases b7
      · clear hb7
        go_wp2
        go_ret
        refine ⟨rfl, ?_⟩
        have hall : Mod (fun b => b = w.heap.size) w0 w7 := kw.trans (m7.mono (fun _ f => f.elim))
        exact HM0.out.trans' hall (fun i hi f => by omega)
      have hfz := hb7 rfl
      clear hb7
      have hOT : Calls Try.prog 17 #[.slice A' (xn - ps) (c4 - ps)] w7 fun e w' => ∃ x : TV, e = .returned (.tuple #[.agg x.cells.toArray, .int .i64 (ln : Int), .int .i64 0]) ∧ x.t = z.t ∧ x.Rows (fun b => w7.heap.size ≤ b) w' ∧ Mod No w7 w' := by
        have hXlen : X.length = xn := HX.out.2.2.2.2.2.2.symm
        have hc8 := HX.out.2.2.2.2.2.1
        have hBl : (X.drop ps).length = xn - ps := by rw [List.length_drop, hXlen]
        have hrow7 : RowAt (fun b => b < w7.heap.size) w7 (some ⟨g4, 0, none⟩) (bcells X) := by
          refine .inr ⟨g4, 0, rfl, ?_, fun j u hj => by rw [Nat.zero_add]; exact H6.out.2.1 _ (HMW.out.trans m7) j u hj⟩
          obtain ⟨u, hu⟩ : ∃ u, (bcells X)[0]? = some u := ⟨_, List.getElem?_eq_getElem (by rw [bcells_length]; exact List.length_pos_iff.2 HX.out.2.2.2.2.1)⟩
          exact World.block_lt_of_cell? _ _ (H6.out.2.1 _ (HMW.out.trans m7) 0 u hu)
        have hr2 := HZ.out.2.2.2.2.2.2.2.2.2.2.2 _ _ _ hrow7
        have e1 : ((bcells X).drop ps).take (xn - ps) = bcells (X.drop ps) := by
          rw [List.take_of_length_le (by rw [List.length_drop, bcells_length, hXlen]; omega)]
          simp [bcells]
        rw [e1] at hr2
        have h := openTenant_ok (w := w7) (A := A') (c := c4 - ps) (X.drop ps) hr2 (by rw [hBl]; omega) (by rw [hBl]; omega)
        rw [hBl] at h
        have hot : otn (X.drop ps) = (z.t, ln, 0) := by
          have hat := rten_at z.t HZ.out.2.1.ok hfz [] (wtens (l.drop (j + 1)))
          simp only [List.nil_append, List.length_nil] at hat
          rw [HZ.out.2.2.2.2.2.2.2.2.1, HZ.out.2.2.2.2.2.2.2.1]
          unfold otn
          rw [hat, HZ.out.2.2.2.2.2.1]
          rfl
        rw [hot] at h
        exact h
      have HOT := Lib.hid hOT
      have HM7 := Lib.hid m7
      clear hOT m7
      go_wp2_with fail
      refine HOT.out.mono ?_
      rintro e w8 ⟨x, rfl, hxt, hxr, m8⟩
      obtain ⟨TX, hTX⟩ : ∃ TX, TX = x.cells.toArray := ⟨_, rfl⟩
      have hst := tenStore_new w8 x.cells.toArray rfl (TV.one hxr)
      rw [← hTX] at hst ⊢
      have hmr8 : Mod No wr w8 := HM7.out.trans m8
      have hmA : Mod No w8 (w8.alloc (.cells TX 30)) := (Mod.refl _ _).alloc _
      have hz8 : z.Rows (fun b => b < w.heap.size) (w8.alloc (.cells TX 30)) := (HZ.out.1.keeps HZ.out.2.2.2.2.2.2.2.2.2.2.1).keeps ((hmr8.trans hmA).keeps (fun _ _ _ f => f))
      have hx8 : x.Rows (fun b => w7.heap.size ≤ b) (w8.alloc (.cells TX 30)) := hxr.keeps (hmA.keeps (fun _ _ _ f => f))
      have hld1 : (tenLoad (.pointer (some ⟨w8.heap.size, 0, none⟩))).run Try.prog ((w8.alloc (.cells TX 30)).drew) = .ok (.agg TX) ((w8.alloc (.cells TX 30)).drew) := tenLoad_run (at10d w8 _) (by rw [hTX]; rfl)
      have hld2 : (tenLoad (.pointer (some ⟨b, o' + j * 33, none⟩))).run Try.prog ((w8.alloc (.cells TX 30)).drew) = .ok (.agg TZ) ((w8.alloc (.cells TX 30)).drew) := by
        rw [HZ.out.2.2.2.2.1]
        exact tenLoad_mid _ b (o' + j * 33) z.cells rfl (fun i v hi => (hmr8.trans (hmA.drew)).cell (HZ.out.2.2.2.1 i v hi) id)
      have hsame : Calls Try.prog 12 #[.agg TX, .agg TZ] ((w8.alloc (.cells TX 30)).drew) fun e w' => e = .returned (.bool true) ∧ Mod No (w8.alloc (.cells TX 30)) w' := by
        have hlz := light_of HZ.out.2.2.1
        have hkd : ∀ S, Keeps S (w8.alloc (.cells TX 30)) (w8.alloc (.cells TX 30)).drew := fun S => (Mod.refl No _).drew.keeps (fun _ _ _ f => f)
        have h := tenant_same (w := (w8.alloc (.cells TX 30)).drew) (hx8.keeps (hkd _)) (hz8.keeps (hkd _)) hxt hlz.2.1 hlz.2.2.1 hlz.2.2.2
        rw [← hTX, ← HZ.out.2.2.2.2.1] at h
        exact h.mono fun e w' ⟨e1, e2⟩ => ⟨e1, (Mod.refl No _).drew.trans e2⟩
      have HSM := Lib.hid hsame
      have H8 := Lib.hid (And.intro hmr8 hmA)
      clear hsame hmr8 hmA hz8 hx8 m8 hxr hxt hTX
      go_wp2_with fail
      go_region_law (first | (go_simp; go_at_call 12; refine HSM.out.mono ?_; rintro e w9 ⟨rfl, m9⟩; have H9 := Lib.hid m9; clear m9))
      all_goals
        go_wp2
        refine ⟨⟨j + 1, by go_num, ?_, by omega, ?_⟩, by simp [intOf]; omega⟩
        · rw [HZ.out.2.2.2.2.2.2.1, ← HZ.out.2.2.2.2.2.1]; go_num
        · exact ((HMW.out.trans H8.out.1).trans H8.out.2).trans H9.out
    · obtain rfl : n = j := by omega
      have hend : ps = xn := by
        rw [HX.out.2.2.2.2.2.2, ← hpl, List.drop_of_length_le (by have := HL.out.2.2.1; omega)]
        simp [wtens]
      subst hend
      clear hps hHd hwall hXd hpl
      go_wp2
      go_ret
      refine ⟨by simp, ?_⟩
      have hall : Mod (fun b => b = w.heap.size) w0 wr := H6.out.1.trans (HMW.out.mono (fun _ f => f.elim))
      exact HM0.out.trans' hall (fun i hi f => by omega)

end Go.Proofs.Ytcnemhhbihhcfaa
