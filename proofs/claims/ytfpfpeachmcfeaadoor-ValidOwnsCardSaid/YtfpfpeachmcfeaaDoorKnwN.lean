/-
  known: settings that may be, and may not.
-/
import Derived.Test.YtfpfpeachmcfeaaDoorCfgN
namespace Go.Proofs.YtfpfpeachmcfeaaDoor
open Go.RowKit
set_option linter.unusedVariables false
set_option linter.unusedSimpArgs false
attribute [local go_sem ↓] Go.wp_at_zero Go.wp_at_succ
attribute [local go_sem ↓] store_fold alloc_fold load_fold slice_op_fold ten_zero_fold con_load_fold con_alloc_fold con_store_fold con_zero_fold
attribute [local go_sem] run_store_func

/-- A seat's tenant has a name, and is short. -/
theorem seat_low (i : Nat) : 0 < (str (seatName i)).size ∧ (str (seatName i)).size ≤ 9 ∧ Low (str (seatName i)) := by
  have hsz : (str (seatName i)).size = 1 := rfl
  refine ⟨by rw [hsz]; omega, by rw [hsz]; omega, fun j hj => ?_⟩
  have h0 : j = 0 := by rw [hsz] at hj; omega
  subst h0
  show 97 ≤ (UInt8.ofNat (97 + i % 8)).toNat ∧ (UInt8.ofNat (97 + i % 8)).toNat ≤ 122
  rw [UInt8.toNat_ofNat', Nat.mod_eq_of_lt (by omega)]
  omega
theorem seat_says (i k : Nat) (w : World) : NameSays (seatTen i k).name true w := fun W _ => nameShort_ok (str (seatName i)) (seat_low i).1 (seat_low i).2.1 (seat_low i).2.2 W
theorem seat_short (i k : Nat) : Short (seatTen i k) := by
  refine ⟨?_, ?_, ?_⟩
  · show (addr4 5 5 i 1 :: if k &&& 4 != 0 then [addr4 5 5 i 2] else []).length ≤ 1000
    split <;> simp
  · show (if k &&& 128 != 0 then [(⟨addr4 10 0 0 9, addr4 5 6 i 9⟩ : Pr)] else []).length ≤ 12
    split <;> simp
  · show (if k &&& 256 != 0 then [(⟨addr4 192 168 0 5, addr4 8 8 8 8⟩ : Pr), ⟨addr4 192 168 0 6, addr4 5 5 i 1⟩] else []).length ≤ 12
    split <;> simp
theorem known1 (x0 x1 : TV) (h0 : x0.t = seatTen 0 500) (h1 : x1.t = seatTen 1 3) : vCheck (fun _ => true) (seatCon 5) [x0, x1] = 0 := by
  obtain ⟨t0, a0, b0, c0⟩ := x0
  obtain ⟨t1, a1, b1, c1⟩ := x1
  subst h0
  subst h1
  kernel_rfl
theorem known2 (x0 x1 : TV) (h0 : x0.t = seatTen 0 500) (h1 : x1.t = { seatTen 1 3 with pool := (seatTen 0 500).pool }) : vCheck (fun _ => true) (seatCon 5) [x0, x1] = 92 := by
  obtain ⟨t0, a0, b0, c0⟩ := x0
  obtain ⟨t1, a1, b1, c1⟩ := x1
  subst h0
  subst h1
  kernel_rfl
theorem known3 : vCheck (fun _ => true) Con.zero0 [] = 96 := by kernel_rfl
theorem known4 : decide (addr4 5 5 0 1 ∈ ownedN (seatTen 0 500)) = true := by kernel_rfl

set_option maxRecDepth 100000 in
set_option maxHeartbeats 2000000 in
theorem known_ok (w : World) : Calls Tryd.prog 9 #[] w (Says true w) := by
  have hcfg : ∀ (U : World) (g : Nat), Mod No w U → U.heap[g]? = some (.cells #[.int .u16 500, .int .u16 3] 27 (0, 0)) → Calls Tryd.prog 17 #[.slice (some ⟨g, 0, none⟩) 2 2, .int .u8 5] U (CfgP [500, 3] 5 U) := fun U g hU hg =>
    seatCfg_ok (d := 5) (Q := fun b => b < U.heap.size) [500, 3] (.inr ⟨g, 0, rfl, lt_of_block hg, fun j v hj => by rw [Nat.zero_add, blk_cell hg j, ← hj]; simp [u16Cells]⟩) rfl (by omega) (by simp) (by omega)
  have HC := Lib.hid hcfg
  have hao := conAlloc_run
  clear hcfg
  unfold Says
  go_enter Tryd.func9, Tryd.ntmps9
  go_upto_region 2 with (go_at_call 17; refine (HC.out _ _ (by repeat (first | with_reducible exact Mod.refl _ _ | refine Mod.alloc ?_ _ | refine Mod.drew ?_)) (by first | exact at10 _ _ | exact at10d _ _)).mono ?_; rintro e w1 ⟨v, l, rfl, ho, hr, hlen, hts, hm⟩; obtain ⟨A, c, hv, hcc, hrow⟩ := ho.open; have m1 : Mod No w w1 := Mod.trans (by repeat (first | with_reducible exact Mod.refl _ _ | refine Mod.alloc ?_ _ | refine Mod.drew ?_)) hm; obtain ⟨C0, hC0⟩ : ∃ C, C = (seatCon 5).cells v := ⟨_, rfl⟩; have hst := conStore_new w1 C0 (by rw [hC0]; rfl) (by rw [hC0, hv]; exact con_one _ _ _ _); rw [← hC0]; have H1 := Lib.hid (And.intro ho (And.intro hr (And.intro hlen (And.intro hts (And.intro m1 (And.intro hC0 (And.intro hv (And.intro hcc hrow)))))))); clear ho hr hlen hts hm hv hcc hrow m1 hC0)
  obtain ⟨x0, x1, rfl⟩ : ∃ x0 x1, l = [x0, x1] := by
    have h2 : l.length = 2 := by rw [H1.out.2.2.1]; rfl
    match l, h2 with
    | [a, b], _ => exact ⟨a, b, rfl⟩
  have t0 : x0.t = seatTen 0 500 := by obtain ⟨k, hk, e⟩ := H1.out.2.2.2.1 0 x0 rfl; cases hk; exact e
  have t1 : x1.t = seatTen 1 3 := by obtain ⟨k, hk, e⟩ := H1.out.2.2.2.1 1 x1 rfl; cases hk; exact e
  obtain ⟨gA, cap, cur, hvA, hgA, hbA, hsA, htA⟩ : ∃ gA cap cur, v = .slice (some ⟨gA, 0, none⟩) 2 cap ∧ 2 ≤ cap ∧ w1.heap[gA]? = some (.cells cur 30 (0, 0)) ∧ 66 ≤ cur.size ∧ cur.toList.take 66 = tvCells [x0, x1] := by
    rcases H1.out.1.2 with ⟨_, h0⟩ | ⟨g, cap, cur, e, hb, hg, hn, hc, hs, ht⟩
    · exact absurd h0 (by simp)
    · exact ⟨g, cap, cur, e, hn, hg, by have h2 : (cur.toList.take 66).length = 66 := (by rw [show cur.toList.take 66 = tvCells [x0, x1] from ht]; rfl); rw [List.length_take] at h2; have h3 : cur.toList.length = cur.size := Array.length_toList; omega, ht⟩
  refine grab_w fun V1 hV1 => ?_
  have mV1 : Mod No w1 V1 := by rw [hV1]; exact (Mod.refl _ _).alloc _
  have hbc : V1.heap[w1.heap.size]? = some (.cells C0 39 (0, 0)) := by rw [hV1]; exact at10 _ _
  obtain ⟨gc, hgc⟩ : ∃ gc, gc = w1.heap.size := ⟨_, rfl⟩
  rw [← hgc] at hbc ⊢
  have hne : gA ≠ gc := by have := lt_of_block hbA; omega
  have hld1 := conLoad_run hbc (by rw [H1.out.2.2.2.2.2.1]; rfl)
  have hchk : ∀ (U : World) (x1' : TV) (cu : Array Value), U.heap[gA]? = some (.cells cu 30 (0, 0)) → 66 ≤ cu.size → cu.toList.take 66 = tvCells [x0, x1'] → x0.Rows (fun b => b < U.heap.size) U → x1'.Rows (fun b => b < U.heap.size) U → Short x1'.t → x1'.t.name = seatName 1 →
      Calls Tryd.prog 16 #[.agg C0] U (ChkP (fun _ => true) (seatCon 5) [x0, x1'] U) := fun U x1' cu hb hsz htk r0 r1 hs1 hn1 => by
    have hrow : RowAt (fun b => b < U.heap.size) U (some ⟨gA, 0, none⟩) (tvCells [x0, x1']) := .inr ⟨gA, 0, rfl, lt_of_block hb, fun j u hj => by
      rw [Nat.zero_add, blk_cell hb j, ← hj, ← htk, List.getElem?_take_of_lt (by have := (List.getElem?_eq_some_iff.1 hj).1; rw [tv_len] at this; exact this)]
      simp⟩
    have h := check_ok (fun _ => true) (seatCon 5) (cc := cap) [x0, x1'] ⟨hrow, fun y hy => by
      simp only [List.mem_cons, List.not_mem_nil, or_false] at hy
      rcases hy with rfl | rfl
      · exact r0
      · exact r1⟩ hgA (by simp) (fun y hy => by
      simp only [List.mem_cons, List.not_mem_nil, or_false] at hy
      rcases hy with rfl | rfl
      · exact ⟨by rw [t0]; exact seat_short 0 500, by rw [t0]; exact seat_says 0 500 U⟩
      · exact ⟨hs1, by rw [hn1]; exact seat_says 1 3 U⟩)
    rw [H1.out.2.2.2.2.2.1, hvA]
    exact h
  have rows : ∀ U, Mod No w1 U → x0.Rows (fun b => b < U.heap.size) U ∧ x1.Rows (fun b => b < U.heap.size) U := fun U hU =>
    ⟨((H1.out.2.1 x0 (by simp)).keeps (hU.keeps (fun _ _ _ f => f))).lt (fun b hb _ => hb), ((H1.out.2.1 x1 (by simp)).keeps (hU.keeps (fun _ _ _ f => f))).lt (fun b hb _ => hb)⟩
  have hc1 := hchk V1 x1 cur (mV1.obj hbA (fun f => f)) hsA htA (rows V1 mV1).1 (rows V1 mV1).2 (by rw [t1]; exact seat_short 1 3) (by rw [t1]; rfl)
  unfold ChkP at hc1
  rw [known1 x0 x1 t0 t1] at hc1
  have HK := Lib.hid hchk
  have HC1 := Lib.hid hc1
  have H2 := Lib.hid (And.intro t0 (And.intro t1 (And.intro hvA (And.intro hbA (And.intro hsA (And.intro htA (And.intro mV1 (And.intro hbc (And.intro hne rows)))))))))
  clear hchk hc1 t0 t1 hvA hgA hbA hsA htA mV1 hbc hne rows hV1 hgc hst hao HC
  go_upto_region 3 with (go_at_call 16; refine HC1.out.mono ?_; rintro e w2 ⟨rfl, hm2⟩)
  have h2 := H2.out
  have mw2 : Mod No w1 w2 := h2.2.2.2.2.2.2.1.trans hm2
  have kbA := mw2.obj h2.2.2.2.1 (fun f => f)
  have kbc := hm2.obj h2.2.2.2.2.2.2.2.1 (fun f => f)
  obtain ⟨P, n, p, hvp⟩ : ∃ P n p, x0.vp = .slice P n p := by
    obtain ⟨P, p, Q, q, R, r, e1, e2, e3, _⟩ := (h2.2.2.2.2.2.2.2.2.2 w2 mw2).1
    exact ⟨P, _, p, e1⟩
  have hat : ∀ (j : Nat) (u : Value), (tvCells [x0, x1])[j]? = some u → w2.cell? ⟨gA, j, none⟩ = some u := fun j u hj => by
    rw [blk_cell kbA j, ← hj, ← h2.2.2.2.2.2.1, List.getElem?_take_of_lt (by have := (List.getElem?_eq_some_iff.1 hj).1; rw [tv_len] at this; exact this)]
    simp
  have k28 : w2.cell? ⟨gc, 28, none⟩ = some (.slice (some ⟨gA, 0, none⟩) 2 cap) := by rw [blk_cell kbc 28, H1.out.2.2.2.2.2.1, h2.2.2.1]; rfl
  have k23 : w2.cell? ⟨gA, 23, none⟩ = some (.slice P n p) := by rw [← hvp]; exact hat 23 _ rfl
  have k56 : w2.cell? ⟨gA, 56, none⟩ = some x1.vp := hat 56 _ rfl
  have f56 : w2.frozen? ⟨gA, 56, none⟩ = false := blk_free kbA 56
  have H3 := Lib.hid (And.intro mw2 (And.intro kbA (And.intro kbc (And.intro hvp hm2))))
  clear hm2 hat kbA kbc hvp mw2 h2 hld1 HC1
  go_upto_region 3 with fail
  go_region
  go_upto_region 4 with fail
  refine grab_w fun V3 hV3 => ?_
  have h2 := H2.out
  obtain ⟨mw2, kbA, kbc, hvp, hm2⟩ := H3.out
  have m3 : Mod (fun j => j = gA) w2 V3 := by rw [hV3]; exact (Mod.setCell (F := fun j => j = gA) (p := ⟨gA, 56, none⟩) (Mod.refl _ _) (.inr rfl) _).drew
  have b3 : V3.heap[gA]? = some (.cells (cur.setIfInBounds 56 (.slice P n p)) 30 (0, 0)) := by rw [hV3]; exact heap_setCell_row kbA _
  have c3 : V3.heap[gc]? = some (.cells C0 39 (0, 0)) := m3.obj kbc (fun f => h2.2.2.2.2.2.2.2.2.1 f.symm)
  obtain ⟨x1', hx1'⟩ : ∃ x : TV, x = ⟨{ x1.t with pool := x0.t.pool }, x0.vp, x1.vs, x1.vt⟩ := ⟨_, rfl⟩
  have hcells : tvCells [x0, x1'] = (tvCells [x0, x1]).set 56 (.slice P n p) := by rw [hx1', ← hvp]; rfl
  have htk3 : (cur.setIfInBounds 56 (.slice P n p)).toList.take 66 = tvCells [x0, x1'] := by rw [hcells, ← h2.2.2.2.2.2.1, Array.toList_setIfInBounds, List.take_set]
  have rows3 : ∀ U, Mod No V3 U → x0.Rows (fun b => b < U.heap.size) U ∧ x1'.Rows (fun b => b < U.heap.size) U := fun U hU => by
    have hm13 : Mod (fun j => j = gA) w1 U := ((mw2.mono (fun _ f => f.elim)).trans m3).trans (hU.mono (fun _ f => f.elim))
    have k : ∀ y ∈ [x0, x1], y.Rows (fun b => b < U.heap.size) U := fun y hy => ((H1.out.2.1 y hy).keeps (hm13.keeps (fun b _ hb f => hb.2 (by rw [h2.2.2.1, f]; rfl)))).lt (fun b hb _ => hb)
    have k0 := k x0 (by simp)
    have k1 := k x1 (by simp)
    refine ⟨k0, ?_⟩
    rw [hx1']
    obtain ⟨P0, p0, Q0, q0, R0, r0, e1, _, _, r1, _, _⟩ := k0
    obtain ⟨P1, p1, Q1, q1, R1, r1', _, e2, e3, _, r2, r3⟩ := k1
    exact ⟨P0, p0, Q1, q1, R1, r1', e1, e2, e3, r1, r2, r3⟩
  have hs3 : Short x1'.t := by
    rw [hx1']
    refine ⟨?_, ?_, ?_⟩
    · show x0.t.pool.length ≤ 1000; rw [h2.1]; exact (seat_short 0 500).1
    · show x1.t.statics.length ≤ 12; rw [h2.2.1]; exact (seat_short 1 3).2.1
    · show x1.t.twices.length ≤ 12; rw [h2.2.1]; exact (seat_short 1 3).2.2
  have hc2 := HK.out V3 x1' _ b3 (by simp; exact h2.2.2.2.2.1) htk3 (rows3 V3 (Mod.refl _ _)).1 (rows3 V3 (Mod.refl _ _)).2 hs3 (by rw [hx1']; show x1.t.name = seatName 1; rw [h2.2.1]; rfl)
  unfold ChkP at hc2
  rw [known2 x0 x1' h2.1 (by rw [hx1', ← h2.1, ← h2.2.1])] at hc2
  have hld3 := conLoad_run c3 (by rw [H1.out.2.2.2.2.2.1]; rfl)
  have HC2 := Lib.hid hc2
  have H4 := Lib.hid (And.intro m3 (And.intro b3 (And.intro c3 (And.intro htk3 rows3))))
  clear h2 mw2 kbA kbc hvp hm2 m3 b3 c3 hcells htk3 rows3 hs3 hc2 hV3 k28 k23 k56 f56 hx1'
  go_upto_region 5 with (go_at_call 16; refine HC2.out.mono ?_; rintro e w4 ⟨rfl, hm4⟩)
  have h4 := H4.out
  have m34 : Mod (fun j => j = gA) w2 w4 := h4.1.trans (hm4.mono (fun _ f => f.elim))
  have mw4 : Mod No w w4 := by
    have h1 : Mod (fun j => j = gA) w1 w4 := (H3.out.1.mono (fun _ f => f.elim)).trans m34
    refine H1.out.2.2.2.2.1.trans' h1 (fun i hi hj => ?_)
    have h5 := (World.ownsRow.lt H1.out.1 gA (by rw [H2.out.2.2.1]; rfl)).1
    simp at h5
    omega
  have hold : ∀ U, Mod No w4 U → U.cell? ⟨gc, 28, none⟩ = some (.slice (some ⟨gA, 0, none⟩) 2 cap) ∧ (tenLoad (.pointer (some ⟨gA, 0, none⟩))).run Tryd.prog U = .ok (.agg x0.cells.toArray) U := fun U hU => by
    have hm := hm4.trans hU
    refine ⟨by rw [blk_cell (hm.obj h4.2.2.1 (fun f => f)) 28, H1.out.2.2.2.2.2.1, H2.out.2.2.1]; rfl, ?_⟩
    have hb := hm.obj h4.2.1 (fun f => f)
    refine tenLoad_mid _ _ _ _ (TV.len x0) (fun j u hj => ?_)
    have hj' : (tvCells [x0, x1'])[j]? = some u := by
      rw [show tvCells [x0, x1'] = x0.cells ++ x1'.cells from by simp [tvCells], List.getElem?_append_left (List.getElem?_eq_some_iff.1 hj).1]
      exact hj
    rw [Nat.zero_add, blk_cell hb j, ← hj', ← h4.2.2.2.1, List.getElem?_take_of_lt (by have := (List.getElem?_eq_some_iff.1 hj').1; rw [tv_len] at this; exact this)]
    simp only [Array.getElem?_toList]
  have hzero : ∀ U, Calls Tryd.prog 16 #[.agg zCon] U fun e w' => e = .returned (.int .i64 96) ∧ Mod No U w' := fun U => by
    have h := check_ok (w := U) (fun _ => true) Con.zero0 (A := none) (cc := 0) [] ⟨.nil _ _ _, by simp⟩ (by simp) (by simp) (by simp)
    unfold ChkP at h
    rw [known3] at h
    exact h
  have hown : ∀ U, Mod No w4 U → Calls Tryd.prog 13 #[.agg x0.cells.toArray, .int .u32 ((addr4 5 5 0 1 : Nat) : Int)] U fun e w' => e = .returned (.bool true) ∧ Mod No U w' := fun U hU => by
    have hs := seat_short 0 500
    have h := owns_ok x0 (h4.2.2.2.2 U (hm4.trans hU)).1 (by rw [H2.out.1]; have := hs.1; omega) (by rw [H2.out.1]; have := hs.2.1; omega) (addr4 5 5 0 1)
    rw [H2.out.1, known4] at h
    exact h
  have had := addr_ok (a := 5) (b := 5) (c := 0) (d := 1) (by omega) (by omega) (by omega) (by omega)
  obtain ⟨ad, had0⟩ : ∃ z : Int, z = ((addr4 5 5 0 1 : Nat) : Int) := ⟨_, rfl⟩
  rw [← had0] at had
  obtain ⟨CX, hCX⟩ : ∃ C, C = x0.cells.toArray := ⟨_, rfl⟩
  rw [← hCX] at hold
  rw [← hCX, ← had0] at hown
  have hz := conZero_run
  obtain ⟨ZC, hZC⟩ : ∃ C, C = zCon := ⟨_, rfl⟩
  rw [← hZC] at hzero hz
  have HO := Lib.hid hold
  have HZ := Lib.hid hzero
  have HOw := Lib.hid hown
  have HAd := Lib.hid had
  have HMw := Lib.hid mw4
  have tk1 := trivial
  clear h4 m34 mw4 hold hzero hown had had0 hCX hZC hm4 HC2 hld3
  go_region_held3 (fun U => U.cell? ⟨gc, 28, none⟩ = some (.slice (some ⟨gA, 0, none⟩) 2 cap) ∧ (tenLoad (.pointer (some ⟨gA, 0, none⟩))).run Tryd.prog U = .ok (.agg CX) U)
    ((refine HO.out _ ?_; repeat (first | with_reducible exact Mod.refl _ _ | refine Mod.drew ?_ | with_reducible exact zb' | with_reducible exact za')))
    (first
    | (have tk := tk1; go_at_call 16; refine (HZ.out _).mono ?_; rintro e w5 ⟨rfl, hm5⟩; have za' : Mod No w4 w5 := Mod.trans (by repeat (first | with_reducible exact Mod.refl _ _ | refine Mod.alloc ?_ _ | refine Mod.drew ?_)) hm5; clear hm5 tk tk1)
    | (go_at_call 23; refine (HAd.out _).mono ?_; rintro e u ⟨rfl, e9⟩; rw [e9]; clear e9 u)
    | (go_at_call 13; refine (HOw.out _ za').mono ?_; rintro e w6 ⟨rfl, hm6⟩; have zb' : Mod No w4 w6 := za'.trans hm6; clear hm6))
  all_goals
    have hz6 := HMw.out.trans zb'
    go_wp2
    go_ret
    exact ⟨rfl, hz6⟩

end Go.Proofs.YtfpfpeachmcfeaaDoor
