/-
  SeatB, DfK in one text (pack.py).
-/
import Derived.Test.YtfpfpeachmcfeaaDoorVdA
import Derived.Deep.CutBlock
import Derived.Deep.DeepCutAuto
namespace Go.Proofs.YtfpfpeachmcfeaaDoor

section
open Go.RowKit
set_option linter.unusedVariables false
attribute [local go_sem ↓] Go.wp_at_zero Go.wp_at_succ
attribute [local go_sem ↓] t_b7_fold store_fold alloc_fold load_fold
/-- The i-th tenant (of few), of a kind. -/
def seat0 (i k : Nat) : Ten := { name := seatName i, vni := 100 + i, key := ⟨UInt8.ofNat (i + 1), 0, 0, 0, 0, 0, 0, 0⟩, vtep := addr4 10 9 0 (i + 1), vmac := ⟨2, 9, UInt8.ofNat i, 0, 0, 0⟩, host := ⟨2, 7, UInt8.ofNat i, 0, 0, 0⟩, pool := [], lo := 0, hi := 0, filter := ((k % 3 : Nat) : Int), statics := [], twices := [], sess := 0, queue := 0, rate := 0, burst := 0 }
def seat1 (i k : Nat) : Ten := { seat0 i k with pool := addr4 5 5 i 1 :: if k &&& 4 != 0 then [addr4 5 5 i 2] else [] }
def seat2 (i k : Nat) : Ten := { seat1 i k with lo := if k &&& 64 != 0 then 1020 else 1024, hi := if k &&& 64 != 0 then 1030 else 1024 + (k / 8 &&& 7) }
def seat3 (i k : Nat) : Ten := { seat2 i k with statics := if k &&& 128 != 0 then [⟨addr4 10 0 0 9, addr4 5 6 i 9⟩] else [] }
def seat4 (i k : Nat) : Ten := { seat3 i k with twices := if k &&& 256 != 0 then [⟨addr4 192 168 0 5, addr4 8 8 8 8⟩, ⟨addr4 192 168 0 6, addr4 5 5 i 1⟩] else [] }
def seatTen (i k : Nat) : Ten := { seat4 i k with sess := ((1 + (k / 512 &&& 7) : Nat) : Int), queue := ((1 + (k / 4096 &&& 3) : Nat) : Int), rate := k / 16384 &&& 3, burst := 3 + (k / 8192 &&& 7) }
/-- What lies there while it is made. -/
structure SeatSt (w W : World) (x : TV) : Prop where
  b1 : W.heap[w.heap.size + 1]? = some (.cells x.cells.toArray 30 (0, 0))
  b0 : W.heap[w.heap.size]? = some (.cells zTen 30 (0, 0))
  m : Mod No w W
  rows : x.Rows (fun b => w.heap.size + 2 ≤ b) W
theorem SeatSt.mod {w W W' : World} {x : TV} (h : SeatSt w W x) (hm : Mod No W W') : SeatSt w W' x := ⟨hm.obj h.b1 (fun f => f), hm.obj h.b0 (fun f => f), h.m.trans hm, h.rows.keeps (hm.keeps (fun _ _ _ f => f))⟩
theorem SeatSt.set {w W : World} {x y : TV} (h : SeatSt w W x) (o : Nat) (v : Value) (e : x.cells.toArray.setIfInBounds o v = y.cells.toArray) (hr : y.Rows (fun b => w.heap.size + 2 ≤ b) W) : SeatSt w (W.setCell ⟨w.heap.size + 1, o, none⟩ v) y := by
  have hm : Mod (fun j => j = w.heap.size + 1) W (W.setCell ⟨w.heap.size + 1, o, none⟩ v) := Mod.setAt (Mod.refl _ _) v
  refine ⟨?_, hm.obj h.b0 (by omega), h.m.trans' hm (fun i hi f => by omega), hr.keeps (hm.keeps (fun b _ hb f => by have hb' : w.heap.size + 2 ≤ b := hb; omega))⟩
  rw [setCell_blk h.b1 v, e]
theorem SeatSt.cell {w W : World} {x : TV} (h : SeatSt w W x) (j : Nat) {v : Value} (hv : x.cells[j]? = some v) : W.cell? ⟨w.heap.size + 1, j, none⟩ = some v := (blk_cell h.b1 j).trans (by simpa using hv)
section
variable (t : Ten) (vp vs vt v : Value) (l : List Nat) (ps : List Pr) (a : Nat) (z : Int)
theorem set_pool : (TV.mk t vp vs vt).cells.toArray.setIfInBounds 23 v = (TV.mk { t with pool := l } v vs vt).cells.toArray := rfl
theorem set_lo : (TV.mk t vp vs vt).cells.toArray.setIfInBounds 24 (.int .u16 (a : Int)) = (TV.mk { t with lo := a } vp vs vt).cells.toArray := rfl
theorem set_hi : (TV.mk t vp vs vt).cells.toArray.setIfInBounds 25 (.int .u16 (a : Int)) = (TV.mk { t with hi := a } vp vs vt).cells.toArray := rfl
theorem set_statics : (TV.mk t vp vs vt).cells.toArray.setIfInBounds 27 v = (TV.mk { t with statics := ps } vp v vt).cells.toArray := rfl
theorem set_twices : (TV.mk t vp vs vt).cells.toArray.setIfInBounds 28 v = (TV.mk { t with twices := ps } vp vs v).cells.toArray := rfl
theorem set_sess : (TV.mk t vp vs vt).cells.toArray.setIfInBounds 29 (.int .i64 z) = (TV.mk { t with sess := z } vp vs vt).cells.toArray := rfl
theorem set_queue : (TV.mk t vp vs vt).cells.toArray.setIfInBounds 30 (.int .i64 z) = (TV.mk { t with queue := z } vp vs vt).cells.toArray := rfl
theorem set_rate : (TV.mk t vp vs vt).cells.toArray.setIfInBounds 31 (.int .u32 (a : Int)) = (TV.mk { t with rate := a } vp vs vt).cells.toArray := rfl
theorem set_burst : (TV.mk t vp vs vt).cells.toArray.setIfInBounds 32 (.int .u32 (a : Int)) = (TV.mk { t with burst := a } vp vs vt).cells.toArray := rfl
end
/-- The pieces of a tenant's rows: numbers do not matter. -/
theorem rows_nums {S : Nat → Prop} {W : World} {t t' : Ten} {vp vs vt : Value} (h : (TV.mk t vp vs vt).Rows S W) (e1 : t'.pool = t.pool) (e2 : t'.statics = t.statics) (e3 : t'.twices = t.twices) : (TV.mk t' vp vs vt).Rows S W := by
  obtain ⟨P, p, Q, q, R, r, h1, h2, h3, r1, r2, r3⟩ := h
  refine ⟨P, p, Q, q, R, r, ?_, ?_, ?_, ?_, ?_, ?_⟩
  all_goals first | (show vp = _; rw [e1]; exact h1) | (show vs = _; rw [e2]; exact h2) | (show vt = _; rw [e3]; exact h3) | (show RowAt S W P (numCells t'.pool); rw [e1]; exact r1) | (show RowAt S W Q (prCells t'.statics); rw [e2]; exact r2) | (show RowAt S W R (prCells t'.twices); rw [e3]; exact r3)
theorem infoU32 : (Tryd.prog.info? 22).map (fun i => (i.zero, i.size, i.bytes)) = some (some (.int .u32 0), 1, 4) := by kernel_rfl
def u32Append (x y : Value) : Sem Value := Builtin.append_ #[26, 26] 26 #[x, y]
theorem app_u32_fold (ρ : Operand → Value) (x y : Operand) (dst : Option Tmp) (pos : String) (after : Array Edge) (g : Option (Nat × Bool)) :
    execOp ρ { dst := dst, op := .call { callee := .builtin .append, args := #[x, y], argTypes := #[26, 26] }, type := 26, pos := pos, after := after, guard := g } = (do pure (Next.value (← u32Append (ρ x) (ρ y))) : Sem Next) := by
  simp [execOp, resolve, invoke, builtin, u32Append]
attribute [local go_sem ↓ high] app_u32_fold
theorem numCells_one' (l : List Nat) : ∀ u ∈ numCells l, u.oneCell' = true := nums_one l
/-- Numbers behind a full list of numbers. -/
theorem app_nums {S S' : Nat → Prop} (U : World) {A A2 : Option Addr} {c2 : Nat} {xs ys : List Nat} (hx : RowAt S U A (numCells xs)) (hy : RowAt S' U A2 (numCells ys)) (h0 : 0 < ys.length) (hl : xs.length + ys.length ≤ 1000000) :
    ∃ A' c' w', (u32Append (.slice A xs.length xs.length) (.slice A2 ys.length c2)).run Tryd.prog U = .ok (.slice A' (xs.length + ys.length) c') w' ∧ Mod No U w' ∧ RowAt (fun b => U.heap.size ≤ b) w' A' (numCells (xs ++ ys)) := by
  obtain ⟨i0, hi, hz0, hz1, hz2⟩ := info_parts infoU32
  obtain ⟨A', c', w', h1, h2, _, h4⟩ := run_append_full2 (P := Tryd.prog) U 26 26 22 i0 _ 1 4 Tryd.underlying26 hi hz0 hz1 hz2 (by decide) A xs.length _ hx (by simp [numCells]) A2 ys.length c2 _ hy (by simp [numCells]) (numCells_one' ys) (by unfold maxLen; omega) (by omega)
  refine ⟨A', c', w', h1, h2, ?_⟩
  rcases h4 with ⟨hm, _⟩ | ⟨cur, rfl, hg, hc⟩
  · omega
  · refine .inr ⟨_, 0, rfl, Nat.le_refl _, fun j u hj => ?_⟩
    rw [Nat.zero_add, blk_cell hg j]
    refine hc j u ?_
    unfold numCells at hj ⊢
    rwa [List.map_append] at hj
theorem u8_of (i : Nat) (h : i < 256) : ((UInt8.ofNat i).toNat : Int) = (i : Int) := by
  rw [UInt8.toNat_ofNat', Nat.mod_eq_of_lt (by omega)]
set_option maxRecDepth 100000 in
set_option maxHeartbeats 4000000 in
theorem seatTen_ok {i k : Nat} (hi : i ≤ 200) (hk : k < 65536) (w : World) : Calls Tryd.prog 19 #[.int .i64 (i : Int), .int .u16 (k : Int)] w fun e w' => ∃ x : TV, e = .returned (.agg x.cells.toArray) ∧ x.t = seatTen i k ∧ x.Rows (fun b => w.heap.size ≤ b) w' ∧ Mod No w w' := by
  have h1 := seatName_ok (i := i) (by omega)
  have h2 := addr_ok (a := 10) (b := 9) (c := 0) (d := i + 1) (by omega) (by omega) (by omega) (by omega)
  have h3 := addr_ok (a := 5) (b := 5) (c := i) (d := 1) (by omega) (by omega) (by omega) (by omega)
  have hal := tenAlloc_run w
  have hal2 := tenAlloc_run (w.alloc (.cells zTen 30))
  obtain ⟨x0, hx0⟩ : ∃ x : TV, x = ⟨seat0 i k, .slice none 0 0, .slice none 0 0, .slice none 0 0⟩ := ⟨_, rfl⟩
  have hr0 : x0.Rows (fun b => w.heap.size + 2 ≤ b) w := by rw [hx0]; exact ⟨none, 0, none, 0, none, 0, rfl, rfl, rfl, .nil _ _ _, .nil _ _ _, .nil _ _ _⟩
  obtain ⟨NM, hNM⟩ : ∃ s, s = str (seatName i) := ⟨_, rfl⟩
  obtain ⟨VT, hVT⟩ : ∃ s : Int, s = ((addr4 10 9 0 (i + 1) : Nat) : Int) := ⟨_, rfl⟩
  obtain ⟨z, hz⟩ : ∃ z : Int, z = (i : Int) := ⟨_, rfl⟩
  obtain ⟨z1, hz1⟩ : ∃ z : Int, z = ((i + 1 : Nat) : Int) := ⟨_, rfl⟩
  obtain ⟨y, hy⟩ : ∃ z : Int, z = (k : Int) := ⟨_, rfl⟩
  obtain ⟨vn, hvn⟩ : ∃ z : Int, z = ((100 + i : Nat) : Int) := ⟨_, rfl⟩
  obtain ⟨fl, hfl⟩ : ∃ z : Int, z = ((k % 3 : Nat) : Int) := ⟨_, rfl⟩
  have c1 : IntKind.u8.wrap z = z := by rw [hz]; exact wrap_u8 i (by omega)
  have c2 : IntKind.u32.wrap z = z := by rw [hz]; exact wrap_u32 i (by omega)
  have c3 : IntKind.u32.wrap (100 + z) = vn := by rw [hz, hvn, show (100 + (i : Int)) = ((100 + i : Nat) : Int) by omega]; exact wrap_u32 _ (by omega)
  have c4 : IntKind.u8.wrap (z + 1) = z1 := by rw [hz, hz1, show ((i : Int) + 1) = ((i + 1 : Nat) : Int) by omega]; exact wrap_u8 _ (by omega)
  have c5 : y.tmod 3 = fl := by rw [hy, hfl]; exact (Int.ofNat_tmod k 3).symm
  have c6 : IntKind.i64.wrap fl = fl := by rw [hfl]; exact wrap_i64 _ (by omega)
  have hb7 : ∀ U, (tB7 (.string NM) (.int .u32 vn) (.agg #[.int .u8 z1, .int .u8 0, .int .u8 0, .int .u8 0, .int .u8 0, .int .u8 0, .int .u8 0, .int .u8 0]) (.int .u32 VT) (.agg #[.int .u8 2, .int .u8 9, .int .u8 z, .int .u8 0, .int .u8 0, .int .u8 0]) (.agg #[.int .u8 2, .int .u8 7, .int .u8 z, .int .u8 0, .int .u8 0, .int .u8 0]) (.int .i64 fl)).run Tryd.prog U = .ok (.agg x0.cells.toArray) U := fun U => by
    have e1 : ((UInt8.ofNat i).toNat : Int) = z := by rw [hz]; exact u8_of i (by omega)
    have e2 : ((UInt8.ofNat (i + 1)).toNat : Int) = z1 := by rw [hz1]; exact u8_of _ (by omega)
    refine (tB7_run _ _ _ _ _ _ _ _ _ _ _ _ _ _ _ _ _ _ _ _ _ _ _ _ U).trans ?_
    rw [hx0]
    simp only [TV.cells, Ten.cells, seat0, e1, e2, hNM, hVT, hvn, hfl]
    rfl
  rw [← hNM] at h1
  rw [← hVT] at h2
  rw [← hz] at h1 h3 ⊢
  rw [← hz1] at h2
  rw [← hy]
  have hst := tenStore_new (w.alloc (.cells zTen 30)) x0.cells.toArray rfl (TV.one hr0)
  rw [show (w.alloc (.cells zTen 30)).heap.size = w.heap.size + 1 by simp] at hst hal2
  have H0 := Lib.hid (And.intro hi (And.intro hk (And.intro hx0 (And.intro hr0 (And.intro hz (And.intro hz1 hy))))))
  obtain ⟨C0, hC0⟩ : ∃ C, C = x0.cells.toArray := ⟨_, rfl⟩
  rw [← hC0] at hb7 hst
  have HC0 := Lib.hid hC0
  clear hi hk hx0 hr0 hz hz1 hy hC0 hNM hVT hvn hfl
  go_enter Tryd.func19, Tryd.ntmps19
  go_upto_region 3 with (first
    | (go_at_call 35; refine (h1 _).mono ?_; rintro e w1 ⟨rfl, e9⟩; rw [e9]; clear e9 w1)
    | (go_at_call 23; refine (h2 _).mono ?_; rintro e w1 ⟨rfl, e9⟩; rw [e9]; clear e9 w1))
  -- the block, as it was laid
  obtain ⟨W, hW⟩ : ∃ W, W = (w.alloc (.cells zTen 30)).alloc (.cells C0 30) := ⟨_, rfl⟩
  have s0 : SeatSt w W x0 := by
    have hm : Mod No w W := by rw [hW]; exact ((Mod.refl _ _).alloc _).alloc _
    exact ⟨by rw [hW, ← HC0.out]; exact at21 w _ _, by rw [hW]; exact at20 w _ _, hm, H0.out.2.2.2.1.keeps (hm.keeps (fun _ _ _ f => f))⟩
  have hWs : W.heap.size = w.heap.size + 2 := by rw [hW]; simp
  rw [← hW]
  clear hW hal hal2 hst hb7 h1 h2
  obtain ⟨P1, hP1⟩ : ∃ z : Int, z = ((addr4 5 5 i 1 : Nat) : Int) := ⟨_, rfl⟩
  rw [← hP1] at h3
  obtain ⟨Z, hZ⟩ : ∃ Z, Z = W.alloc (.cells #[.int .u32 P1] 22) := ⟨_, rfl⟩
  have hZm : Mod No W Z := by rw [hZ]; exact (Mod.refl _ _).alloc _
  have sZ := s0.mod hZm
  have z23 := sZ.cell 23 (v := .slice none 0 0) (by rw [H0.out.2.2.1]; rfl)
  have f0 := blk_free sZ.b1
  have HZ := Lib.hid (And.intro hZm (And.intro sZ (And.intro (show Z.heap[W.heap.size]? = some (.cells #[.int .u32 P1] 22 (0, 0)) by rw [hZ]; exact at10 _ _) (And.intro hP1 hWs))))
  rw [hZ] at z23 f0
  clear hZm sZ s0 hP1 hWs
  go_upto_region 4 with (first
    | (go_at_call 23; refine (h3 _).mono ?_; rintro e w1 ⟨rfl, e9⟩; rw [e9]; clear e9 w1))
  rw [← hZ]
  clear z23 f0 hZ
  -- the pool's second
  refine grab_w fun W1 hW1 => ?_
  obtain ⟨x1, hx1⟩ : ∃ x : TV, x = ⟨{ seat0 i k with pool := [addr4 5 5 i 1] }, .slice (some ⟨W.heap.size, 0, none⟩) 1 1, .slice none 0 0, .slice none 0 0⟩ := ⟨_, rfl⟩
  have s1 : SeatSt w W1 x1 := by
    rw [hW1]
    refine HZ.out.2.1.set 23 _ (by rw [hx1, H0.out.2.2.1]; rfl) ?_
    rw [hx1]
    refine ⟨_, 1, none, 0, none, 0, rfl, rfl, rfl, .inr ⟨_, 0, rfl, by have := HZ.out.2.2.2.2; show w.heap.size + 2 ≤ W.heap.size; omega, fun j u hj => ?_⟩, .nil _ _ _, .nil _ _ _⟩
    rw [Nat.zero_add, blk_cell HZ.out.2.2.1 j, HZ.out.2.2.2.1]
    simpa [numCells] using hj
  have HS1 := Lib.hid (And.intro s1 hx1)
  clear hW1 s1 hx1 h3
  have a4 : bits .and .u16 y 4 = ((k &&& 4 : Nat) : Int) := by rw [H0.out.2.2.2.2.2.2]; exact and_u16 k 4 H0.out.2.1 (by omega)
  obtain ⟨b4, hb4⟩ : ∃ b, b = (k &&& 4 != 0) := ⟨_, rfl⟩
  have t4 : (bits .and .u16 y 4 != 0) = b4 := by
    rw [a4, hb4, Bool.eq_iff_iff, bne_iff_ne, bne_iff_ne]
    omega
  have HB4 := Lib.hid hb4
  clear a4 hb4
  go_cut [34] (fun s34 wx => s34 = .bool b4 ∧ W1 = wx)
  case first =>
    go_wp2_with fail
    go_meet
    exact ⟨rfl, rfl⟩
  case rest =>
  obtain ⟨rfl, rfl⟩ := hcut
  apply_assumption
  go_cut [] (fun wx => ∃ vp, SeatSt w wx ⟨seat1 i k, vp, .slice none 0 0, .slice none 0 0⟩)
  case first =>
    cases b4 with
    | false =>
      go_wp2_with fail
      go_meet
      refine ⟨.slice (some ⟨W.heap.size, 0, none⟩) 1 1, ?_⟩
      have := HS1.out.1
      rw [HS1.out.2] at this
      have e : seat1 i k = { seat0 i k with pool := [addr4 5 5 i 1] } := by unfold seat1; rw [← HB4.out]; rfl
      rw [e]
      exact this
    | true =>
      have h5 := addr_ok (a := 5) (b := 5) (c := i) (d := 2) (by omega) (by omega) (by have := H0.out.1; omega) (by omega)
      obtain ⟨P2, hP2⟩ : ∃ z : Int, z = ((addr4 5 5 i 2 : Nat) : Int) := ⟨_, rfl⟩
      rw [← hP2, ← H0.out.2.2.2.2.1] at h5
      have hc23 := HS1.out.1.cell 23 (v := .slice (some ⟨W.heap.size, 0, none⟩) 1 1) (by rw [HS1.out.2]; rfl)
      have e23 := (HS1.out.1.mod ((Mod.refl No W1).alloc (.cells #[.int .u32 P2] 22))).cell 23 (v := .slice (some ⟨W.heap.size, 0, none⟩) 1 1) (by rw [HS1.out.2]; rfl)
      have hrow : RowAt (fun b => w.heap.size + 2 ≤ b) (W1.alloc (.cells #[.int .u32 P2] 22)).drew (some ⟨W.heap.size, 0, none⟩) (numCells [addr4 5 5 i 1]) := by
        have h9 := HS1.out.1.rows
        rw [HS1.out.2] at h9
        obtain ⟨P, p, Q, q, R, r, e1, _, _, r1, _⟩ := h9
        cases e1
        exact r1.keeps ((((Mod.refl No W1).alloc _).drew).keeps (fun _ _ _ f => f))
      have hnew : RowAt (fun b => w.heap.size + 2 ≤ b) (W1.alloc (.cells #[.int .u32 P2] 22)).drew (some ⟨W1.heap.size, 0, none⟩) (numCells [addr4 5 5 i 2]) :=
        .inr ⟨_, 0, rfl, by have h3 := lt_of_block HS1.out.1.b1; show w.heap.size + 2 ≤ W1.heap.size; omega, fun j u hj => by rw [Nat.zero_add, blk_cell (at10d W1 _) j, hP2]; simpa [numCells] using hj⟩
      obtain ⟨A', c', w2, hrun, hm2, hr2⟩ := app_nums (c2 := 1) _ hrow hnew (by simp) (by simp)
      have hrun' : (u32Append (.slice (some ⟨W.heap.size, 0, none⟩) 1 1) (.slice (some ⟨W1.heap.size, 0, none⟩) 1 1)).run Tryd.prog (W1.alloc (.cells #[.int .u32 P2] 22)).drew = .ok (.slice A' 2 c') w2 := hrun
      have mT : Mod No W1 w2 := (((Mod.refl No W1).alloc _).drew).trans hm2
      have s2 := HS1.out.1.mod mT
      have d23 := s2.cell 23 (v := .slice (some ⟨W.heap.size, 0, none⟩) 1 1) (by rw [HS1.out.2]; rfl)
      have df := blk_free s2.b1
      have hr3 := hr2.mono (S' := fun b => w.heap.size + 2 ≤ b) (fun b _ hb => by
        have h1 : (W1.alloc (.cells #[.int .u32 P2] 22)).drew.heap.size ≤ b := hb
        have h2 := (((Mod.refl No W1).alloc (.cells #[.int .u32 P2] 22)).drew).size
        have h3 := lt_of_block HS1.out.1.b1
        show w.heap.size + 2 ≤ b
        omega)
      have HF := Lib.hid (And.intro s2 hr3)
      clear hP2 hrow hnew hm2 hr2 hr3 mT s2 hrun
      go_wp2_with fail
      go_region_law (first | (go_simp; go_at_call 23; refine (h5 _).mono ?_; rintro e w1 ⟨rfl, e9⟩; rw [e9]; clear e9 w1))
      all_goals
        go_wp2_with fail
        go_meet
        have e0 : seat1 i k = { seat0 i k with pool := [addr4 5 5 i 1, addr4 5 5 i 2] } := by unfold seat1; rw [← HB4.out]; rfl
        have h0 := HF.out.1
        rw [HS1.out.2] at h0
        refine ⟨.slice A' 2 c', h0.set 23 _ (by rw [e0]; exact set_pool _ _ _ _ _ _) ?_⟩
        · refine ⟨A', c', none, 0, none, 0, ?_, rfl, rfl, ?_, .nil _ _ _, .nil _ _ _⟩
          · unfold seat1; rw [← HB4.out]; rfl
          · have e : (seat1 i k).pool = [addr4 5 5 i 1] ++ [addr4 5 5 i 2] := by unfold seat1; rw [← HB4.out]; rfl
            rw [e]
            exact HF.out.2
  case rest =>
  obtain ⟨vp, s2⟩ := hcut
  have hk16 : k < 65536 := H0.out.2.1
  have HYK := Lib.hid (show y = (k : Int) from H0.out.2.2.2.2.2.2)
  -- the ports
  obtain ⟨y8, hy8⟩ : ∃ z : Int, z = ((k / 8 : Nat) : Int) := ⟨_, rfl⟩
  have d8 : y / 8 = y8 := by rw [hy8, HYK.out]; omega
  obtain ⟨y9, hy9⟩ : ∃ z : Int, z = ((k / 8 &&& 7 : Nat) : Int) := ⟨_, rfl⟩
  have a7 : bits .and .u16 y8 7 = y9 := by rw [hy8, hy9]; exact and_u16 (k / 8) 7 (by omega) (by omega)
  obtain ⟨hv, hhv⟩ : ∃ z : Int, z = ((1024 + (k / 8 &&& 7) : Nat) : Int) := ⟨_, rfl⟩
  have h7 : k / 8 &&& 7 ≤ 7 := Nat.and_le_right
  have c7 : IntKind.u16.wrap (1024 + y9) = hv := by rw [hy9, hhv, show (1024 + ((k / 8 &&& 7 : Nat) : Int)) = ((1024 + (k / 8 &&& 7) : Nat) : Int) by omega]; exact wrap_u16 _ (by omega)
  have z24 := s2.cell 24 (v := .int .u16 0) rfl
  have z25 := s2.cell 25 (v := .int .u16 0) rfl
  have f2 := blk_free s2.b1
  have HS2 := Lib.hid (And.intro s2 hhv)
  clear s2 hy8 hy9 hhv h7
  go_upto_region 7 with fail
  refine grab_w fun W2 hW2 => ?_
  have s3 : SeatSt w W2 ⟨{ seat1 i k with lo := 1024, hi := 1024 + (k / 8 &&& 7) }, vp, .slice none 0 0, .slice none 0 0⟩ := by
    rw [hW2]
    have e1 : SeatSt w _ ⟨{ seat1 i k with lo := 1024 }, vp, .slice none 0 0, .slice none 0 0⟩ := HS2.out.1.set 24 (.int .u16 1024) (set_lo _ _ _ _ 1024) (rows_nums HS2.out.1.rows rfl rfl rfl)
    exact e1.set 25 _ (by rw [HS2.out.2]; exact set_hi _ _ _ _ _) (rows_nums e1.rows rfl rfl rfl)
  have a64 : bits .and .u16 y 64 = ((k &&& 64 : Nat) : Int) := by rw [HYK.out]; exact and_u16 k 64 hk16 (by omega)
  obtain ⟨b64, hb64⟩ : ∃ b, b = (k &&& 64 != 0) := ⟨_, rfl⟩
  have t64 : (bits .and .u16 y 64 != 0) = b64 := by
    rw [a64, hb64, Bool.eq_iff_iff, bne_iff_ne, bne_iff_ne]
    omega
  have HB64 := Lib.hid hb64
  have HS3 := Lib.hid s3
  clear a64 hb64 s3 z24 z25 f2 hW2 d8 a7 c7
  go_cut [50] (fun s50 wx => s50 = .bool b64 ∧ W2 = wx)
  case first =>
    go_wp2_with fail
    go_meet
    exact ⟨rfl, rfl⟩
  case rest =>
  obtain ⟨rfl, rfl⟩ := hcut
  apply_assumption
  go_cut [] (fun wx => SeatSt w wx ⟨seat2 i k, vp, .slice none 0 0, .slice none 0 0⟩)
  case first =>
    cases b64 with
    | false =>
      go_wp2_with fail
      go_meet
      have e : seat2 i k = { seat1 i k with lo := 1024, hi := 1024 + (k / 8 &&& 7) } := by unfold seat2; rw [← HB64.out]; rfl
      rw [e]
      exact HS3.out
    | true =>
      have z24 := HS3.out.cell 24 (v := .int .u16 1024) rfl
      have z25 := HS3.out.cell 25 (v := .int .u16 ((1024 + (k / 8 &&& 7) : Nat) : Int)) rfl
      have f2 := blk_free HS3.out.b1
      go_wp2_with fail
      go_meet
      have e : seat2 i k = { seat1 i k with lo := 1020, hi := 1030 } := by unfold seat2; rw [← HB64.out]; rfl
      rw [e]
      have e1 : SeatSt w _ ⟨{ seat1 i k with lo := 1020, hi := 1024 + (k / 8 &&& 7) }, vp, .slice none 0 0, .slice none 0 0⟩ := HS3.out.set 24 (.int .u16 1020) (set_lo _ _ _ _ 1020) (rows_nums HS3.out.rows rfl rfl rfl)
      exact e1.set 25 (.int .u16 1030) (set_hi _ _ _ _ 1030) (rows_nums e1.rows rfl rfl rfl)
  case rest =>
  have s4 : SeatSt w wc ⟨seat2 i k, vp, .slice none 0 0, .slice none 0 0⟩ := hcut
  clear hcut
  -- the statics
  obtain ⟨W4, hW4⟩ : ∃ W4, W4 = wc := ⟨_, rfl⟩
  rw [← hW4] at s4 ⊢
  have HS4 := Lib.hid s4
  clear hW4 s4
  apply_assumption
  go_upto_region 9 with fail
  have a128 : bits .and .u16 y 128 = ((k &&& 128 : Nat) : Int) := by rw [HYK.out]; exact and_u16 k 128 hk16 (by omega)
  obtain ⟨b128, hb128⟩ : ∃ b, b = (k &&& 128 != 0) := ⟨_, rfl⟩
  have t128 : (bits .and .u16 y 128 != 0) = b128 := by
    rw [a128, hb128, Bool.eq_iff_iff, bne_iff_ne, bne_iff_ne]
    omega
  have HB128 := Lib.hid hb128
  clear a128 hb128
  go_cut [55] (fun s55 wx => s55 = .bool b128 ∧ W4 = wx)
  case first =>
    go_wp2_with fail
    go_meet
    exact ⟨rfl, rfl⟩
  case rest =>
  obtain ⟨rfl, rfl⟩ := hcut
  apply_assumption
  go_cut [] (fun wx => ∃ vs, SeatSt w wx ⟨seat3 i k, vp, vs, .slice none 0 0⟩)
  case first =>
    cases b128 with
    | false =>
      go_wp2_with fail
      go_meet
      have e : seat3 i k = seat2 i k := by unfold seat3; rw [← HB128.out]; rfl
      rw [e]
      exact ⟨_, HS4.out⟩
    | true =>
      have h6 := addr_ok (a := 10) (b := 0) (c := 0) (d := 9) (by omega) (by omega) (by omega) (by omega)
      have h7 := addr_ok (a := 5) (b := 6) (c := i) (d := 9) (by omega) (by omega) (by have := H0.out.1; omega) (by omega)
      obtain ⟨Q1, hQ1⟩ : ∃ z : Int, z = ((addr4 10 0 0 9 : Nat) : Int) := ⟨_, rfl⟩
      obtain ⟨Q2, hQ2⟩ : ∃ z : Int, z = ((addr4 5 6 i 9 : Nat) : Int) := ⟨_, rfl⟩
      rw [← hQ1] at h6
      rw [← hQ2, ← H0.out.2.2.2.2.1] at h7
      have hmA : Mod No W4 (W4.alloc (.cells #[.int .u32 Q1, .int .u32 Q2] 49)) := (Mod.refl _ _).alloc _
      have s5 := HS4.out.mod hmA
      have z27 := s5.cell 27 (v := .slice none 0 0) rfl
      have f5 := blk_free s5.b1
      have HS5 := Lib.hid (And.intro s5 (And.intro (at10 W4 (.cells #[.int .u32 Q1, .int .u32 Q2] 49)) (And.intro (And.intro hQ1 hQ2) (lt_of_block HS4.out.b1))))
      clear hmA s5 hQ1 hQ2
      go_wp2_with (first
        | (go_at_call_of 23 (Value.int IntKind.u8 10); refine (h6 _).mono ?_; rintro e w1 ⟨rfl, e9⟩; rw [e9]; clear e9 w1)
        | (go_at_call_of 23 (Value.int IntKind.u8 5); refine (h7 _).mono ?_; rintro e w1 ⟨rfl, e9⟩; rw [e9]; clear e9 w1))
      go_meet
      have e0 : seat3 i k = { seat2 i k with statics := [⟨addr4 10 0 0 9, addr4 5 6 i 9⟩] } := by unfold seat3; rw [← HB128.out]; rfl
      rw [e0]
      refine ⟨.slice (some ⟨W4.heap.size, 0, none⟩) 1 1, HS5.out.1.set 27 _ (set_statics _ _ _ _ _ _) ?_⟩
      obtain ⟨P, p, Q, q, R, r, e1, e2, e3, r1, r2, r3⟩ := HS5.out.1.rows
      refine ⟨P, p, some ⟨W4.heap.size, 0, none⟩, 1, R, r, e1, rfl, e3, r1, .inr ⟨_, 0, rfl, by have := HS5.out.2.2.2; show w.heap.size + 2 ≤ W4.heap.size; omega, fun j u hj => ?_⟩, r3⟩
      rw [Nat.zero_add, blk_cell HS5.out.2.1 j, HS5.out.2.2.1.1, HS5.out.2.2.1.2]
      simpa [prCells, Pr.cells] using hj
  case rest =>
  obtain ⟨vs, s6⟩ := hcut
  -- the twices
  obtain ⟨W6, hW6⟩ : ∃ W6, W6 = wc := ⟨_, rfl⟩
  rw [← hW6] at s6 ⊢
  have HS6 := Lib.hid s6
  clear hW6 s6
  apply_assumption
  go_upto_region 11 with fail
  have a256 : bits .and .u16 y 256 = ((k &&& 256 : Nat) : Int) := by rw [HYK.out]; exact and_u16 k 256 hk16 (by omega)
  obtain ⟨b256, hb256⟩ : ∃ b, b = (k &&& 256 != 0) := ⟨_, rfl⟩
  have t256 : (bits .and .u16 y 256 != 0) = b256 := by
    rw [a256, hb256, Bool.eq_iff_iff, bne_iff_ne, bne_iff_ne]
    omega
  have HB256 := Lib.hid hb256
  clear a256 hb256
  go_cut [64] (fun s64 wx => s64 = .bool b256 ∧ W6 = wx)
  case first =>
    go_wp2_with fail
    go_meet
    exact ⟨rfl, rfl⟩
  case rest =>
  obtain ⟨rfl, rfl⟩ := hcut
  apply_assumption
  go_cut [] (fun wx => ∃ vt, SeatSt w wx ⟨seat4 i k, vp, vs, vt⟩)
  case first =>
    cases b256 with
    | false =>
      go_wp2_with fail
      go_meet
      have e : seat4 i k = seat3 i k := by unfold seat4; rw [← HB256.out]; rfl
      rw [e]
      exact ⟨_, HS6.out⟩
    | true =>
      have h6 := addr_ok (a := 192) (b := 168) (c := 0) (d := 5) (by omega) (by omega) (by omega) (by omega)
      have h7 := addr_ok (a := 8) (b := 8) (c := 8) (d := 8) (by omega) (by omega) (by omega) (by omega)
      have h8 := addr_ok (a := 192) (b := 168) (c := 0) (d := 6) (by omega) (by omega) (by omega) (by omega)
      have h9 := addr_ok (a := 5) (b := 5) (c := i) (d := 1) (by omega) (by omega) (by have := H0.out.1; omega) (by omega)
      obtain ⟨Q1, hQ1⟩ : ∃ z : Int, z = ((addr4 192 168 0 5 : Nat) : Int) := ⟨_, rfl⟩
      obtain ⟨Q2, hQ2⟩ : ∃ z : Int, z = ((addr4 8 8 8 8 : Nat) : Int) := ⟨_, rfl⟩
      obtain ⟨Q3, hQ3⟩ : ∃ z : Int, z = ((addr4 192 168 0 6 : Nat) : Int) := ⟨_, rfl⟩
      obtain ⟨Q4, hQ4⟩ : ∃ z : Int, z = ((addr4 5 5 i 1 : Nat) : Int) := ⟨_, rfl⟩
      rw [← hQ1] at h6
      rw [← hQ2] at h7
      rw [← hQ3] at h8
      rw [← hQ4, ← H0.out.2.2.2.2.1] at h9
      have hmA : Mod No W6 (W6.alloc (.cells #[.int .u32 Q1, .int .u32 Q2, .int .u32 Q3, .int .u32 Q4] 49)) := (Mod.refl _ _).alloc _
      have s5 := HS6.out.mod hmA
      have z28 := s5.cell 28 (v := .slice none 0 0) rfl
      have f5 := blk_free s5.b1
      have HS5 := Lib.hid (And.intro s5 (And.intro (at10 W6 (.cells #[.int .u32 Q1, .int .u32 Q2, .int .u32 Q3, .int .u32 Q4] 49)) (And.intro (And.intro hQ1 (And.intro hQ2 (And.intro hQ3 hQ4))) (lt_of_block HS6.out.b1))))
      clear hmA s5 hQ1 hQ2 hQ3 hQ4
      have tok1 := Lib.hid trivial
      have tok2 := Lib.hid trivial
      have tok3 := Lib.hid trivial
      go_wp2_with (first
        | (go_at_call 23; have gg := tok1; refine (h6 _).mono ?_; rintro e w1 ⟨rfl, e9⟩; rw [e9]; clear e9 w1 gg tok1)
        | (go_at_call 23; have gg := tok2; refine (h7 _).mono ?_; rintro e w1 ⟨rfl, e9⟩; rw [e9]; clear e9 w1 gg tok2)
        | (go_at_call 23; have gg := tok3; refine (h8 _).mono ?_; rintro e w1 ⟨rfl, e9⟩; rw [e9]; clear e9 w1 gg tok3)
        | (go_at_call 23; refine (h9 _).mono ?_; rintro e w1 ⟨rfl, e9⟩; rw [e9]; clear e9 w1))
      go_meet
      have e0 : seat4 i k = { seat3 i k with twices := [⟨addr4 192 168 0 5, addr4 8 8 8 8⟩, ⟨addr4 192 168 0 6, addr4 5 5 i 1⟩] } := by unfold seat4; rw [← HB256.out]; rfl
      rw [e0]
      refine ⟨.slice (some ⟨W6.heap.size, 0, none⟩) 2 2, HS5.out.1.set 28 _ (set_twices _ _ _ _ _ _) ?_⟩
      obtain ⟨P, p, Q, q, R, r, e1, e2, e3, r1, r2, r3⟩ := HS5.out.1.rows
      refine ⟨P, p, Q, q, some ⟨W6.heap.size, 0, none⟩, 2, e1, e2, rfl, r1, r2, .inr ⟨_, 0, rfl, by have := HS5.out.2.2.2; show w.heap.size + 2 ≤ W6.heap.size; omega, fun j u hj => ?_⟩⟩
      rw [Nat.zero_add, blk_cell HS5.out.2.1 j, HS5.out.2.2.1.1, HS5.out.2.2.1.2.1, HS5.out.2.2.1.2.2.1, HS5.out.2.2.1.2.2.2]
      simpa [prCells, Pr.cells] using hj
  case rest =>
  obtain ⟨vt, s8⟩ := hcut
  -- the quotas
  obtain ⟨W8, hW8⟩ : ∃ W8, W8 = wc := ⟨_, rfl⟩
  rw [← hW8] at s8 ⊢
  clear hW8
  obtain ⟨q512, hq512⟩ : ∃ z : Int, z = ((k / 512 : Nat) : Int) := ⟨_, rfl⟩
  have d512 : y / 512 = q512 := by rw [hq512, HYK.out]; omega
  have w512 : IntKind.i64.wrap q512 = q512 := by rw [hq512]; exact wrap_i64 _ (by omega)
  obtain ⟨r512, hr512⟩ : ∃ z : Int, z = ((k / 512 &&& 7 : Nat) : Int) := ⟨_, rfl⟩
  have a512 : bits .and .i64 q512 7 = r512 := by rw [hq512, hr512]; exact and_i64 (k / 512) 7 (by omega) (by omega)
  have l512 : k / 512 &&& 7 ≤ 7 := Nat.and_le_right
  obtain ⟨v512, hv512⟩ : ∃ z : Int, z = ((1 + (k / 512 &&& 7) : Nat) : Int) := ⟨_, rfl⟩
  have x512 : IntKind.i64.wrap (1 + r512) = v512 := by rw [hr512, hv512, show (1 + ((k / 512 &&& 7 : Nat) : Int)) = ((1 + (k / 512 &&& 7) : Nat) : Int) by omega]; exact wrap_i64 _ (by omega)
  obtain ⟨q4096, hq4096⟩ : ∃ z : Int, z = ((k / 4096 : Nat) : Int) := ⟨_, rfl⟩
  have d4096 : y / 4096 = q4096 := by rw [hq4096, HYK.out]; omega
  have w4096 : IntKind.i64.wrap q4096 = q4096 := by rw [hq4096]; exact wrap_i64 _ (by omega)
  obtain ⟨r4096, hr4096⟩ : ∃ z : Int, z = ((k / 4096 &&& 3 : Nat) : Int) := ⟨_, rfl⟩
  have a4096 : bits .and .i64 q4096 3 = r4096 := by rw [hq4096, hr4096]; exact and_i64 (k / 4096) 3 (by omega) (by omega)
  have l4096 : k / 4096 &&& 3 ≤ 3 := Nat.and_le_right
  obtain ⟨v4096, hv4096⟩ : ∃ z : Int, z = ((1 + (k / 4096 &&& 3) : Nat) : Int) := ⟨_, rfl⟩
  have x4096 : IntKind.i64.wrap (1 + r4096) = v4096 := by rw [hr4096, hv4096, show (1 + ((k / 4096 &&& 3 : Nat) : Int)) = ((1 + (k / 4096 &&& 3) : Nat) : Int) by omega]; exact wrap_i64 _ (by omega)
  obtain ⟨q16384, hq16384⟩ : ∃ z : Int, z = ((k / 16384 : Nat) : Int) := ⟨_, rfl⟩
  have d16384 : y / 16384 = q16384 := by rw [hq16384, HYK.out]; omega
  have w16384 : IntKind.u32.wrap q16384 = q16384 := by rw [hq16384]; exact wrap_u32 _ (by omega)
  obtain ⟨r16384, hr16384⟩ : ∃ z : Int, z = ((k / 16384 &&& 3 : Nat) : Int) := ⟨_, rfl⟩
  have a16384 : bits .and .u32 q16384 3 = r16384 := by rw [hq16384, hr16384]; exact and_u32 (k / 16384) 3 (by omega) (by omega)
  have l16384 : k / 16384 &&& 3 ≤ 3 := Nat.and_le_right
  obtain ⟨q8192, hq8192⟩ : ∃ z : Int, z = ((k / 8192 : Nat) : Int) := ⟨_, rfl⟩
  have d8192 : y / 8192 = q8192 := by rw [hq8192, HYK.out]; omega
  have w8192 : IntKind.u32.wrap q8192 = q8192 := by rw [hq8192]; exact wrap_u32 _ (by omega)
  obtain ⟨r8192, hr8192⟩ : ∃ z : Int, z = ((k / 8192 &&& 7 : Nat) : Int) := ⟨_, rfl⟩
  have a8192 : bits .and .u32 q8192 7 = r8192 := by rw [hq8192, hr8192]; exact and_u32 (k / 8192) 7 (by omega) (by omega)
  have l8192 : k / 8192 &&& 7 ≤ 7 := Nat.and_le_right
  obtain ⟨v8192, hv8192⟩ : ∃ z : Int, z = ((3 + (k / 8192 &&& 7) : Nat) : Int) := ⟨_, rfl⟩
  have x8192 : IntKind.u32.wrap (3 + r8192) = v8192 := by rw [hr8192, hv8192, show (3 + ((k / 8192 &&& 7 : Nat) : Int)) = ((3 + (k / 8192 &&& 7) : Nat) : Int) by omega]; exact wrap_u32 _ (by omega)
  have z29 := s8.cell 29 (v := .int .i64 0) rfl
  have z30 := s8.cell 30 (v := .int .i64 0) rfl
  have z31 := s8.cell 31 (v := .int .u32 0) rfl
  have z32 := s8.cell 32 (v := .int .u32 0) rfl
  have f8 := blk_free s8.b1
  have HS8 := Lib.hid (And.intro s8 (And.intro hv512 (And.intro hv4096 (And.intro hr16384 hv8192))))
  clear s8 hv512 hv4096 hr16384 hv8192 hq512 hq4096 hq16384 hq8192 hr512 hr4096 hr8192 l512 l4096 l16384 l8192
  go_upto_region 17 with fail
  refine grab_w fun W9 hW9 => ?_
  have s9 : SeatSt w W9 ⟨seatTen i k, vp, vs, vt⟩ := by
    rw [hW9]
    have e1 : SeatSt w _ ⟨{ seat4 i k with sess := ((1 + (k / 512 &&& 7) : Nat) : Int) }, vp, vs, vt⟩ := HS8.out.1.set 29 (.int .i64 v512) (by rw [HS8.out.2.1]; exact set_sess _ _ _ _ _) (rows_nums HS8.out.1.rows rfl rfl rfl)
    have e2 : SeatSt w _ ⟨{ seat4 i k with sess := ((1 + (k / 512 &&& 7) : Nat) : Int), queue := ((1 + (k / 4096 &&& 3) : Nat) : Int) }, vp, vs, vt⟩ := e1.set 30 (.int .i64 v4096) (by rw [HS8.out.2.2.1]; exact set_queue _ _ _ _ _) (rows_nums e1.rows rfl rfl rfl)
    have e3 : SeatSt w _ ⟨{ seat4 i k with sess := ((1 + (k / 512 &&& 7) : Nat) : Int), queue := ((1 + (k / 4096 &&& 3) : Nat) : Int), rate := k / 16384 &&& 3 }, vp, vs, vt⟩ := e2.set 31 (.int .u32 r16384) (by rw [HS8.out.2.2.2.1]; exact set_rate _ _ _ _ _) (rows_nums e2.rows rfl rfl rfl)
    have e : seatTen i k = { seat4 i k with sess := ((1 + (k / 512 &&& 7) : Nat) : Int), queue := ((1 + (k / 4096 &&& 3) : Nat) : Int), rate := k / 16384 &&& 3, burst := 3 + (k / 8192 &&& 7) } := rfl
    rw [e]
    exact e3.set 32 (.int .u32 v8192) (by rw [HS8.out.2.2.2.2]; exact set_burst _ _ _ _ _) (rows_nums e3.rows rfl rfl rfl)
  obtain ⟨x, hx⟩ : ∃ x : TV, x = ⟨seatTen i k, vp, vs, vt⟩ := ⟨_, rfl⟩
  rw [← hx] at s9
  have hxr : ∀ U, Mod (fun j => j = w.heap.size) W9 U → x.Rows (fun b => w.heap.size ≤ b) U := fun U hU =>
    (s9.rows.keeps (hU.keeps (fun b _ hb f => by have hb' : w.heap.size + 2 ≤ b := hb; omega))).imp (fun b hb => by have hb' : w.heap.size + 2 ≤ b := hb; show w.heap.size ≤ b; omega)
  have hld := tenLoad_run s9.b1 (by rfl)
  have hst := tenStore_run s9.b0 rfl (CA := x.cells.toArray) rfl (TV.one s9.rows)
  obtain ⟨CX, hCX⟩ : ∃ CX, CX = x.cells.toArray := ⟨_, rfl⟩
  rw [← hCX] at hld hst
  have HX := Lib.hid (And.intro hCX (And.intro hx (And.intro hxr (And.intro s9.m s9.b0))))
  clear s9 hxr hCX hx hW9 z29 z30 z31 z32 f8
  go_wp2
  refine bodyPost_ret (results_cell_row rfl _ _ w.heap.size 30 CX (0, 0) _ rfl (setRow_heap _ _ _ _ _ _ HX.out.2.2.2.2) Tryd.underlying30 rfl (by rw [tenSize, HX.out.1]; rfl)) rfl ?_
  refine ⟨x, by rw [HX.out.1], by rw [HX.out.2.1], HX.out.2.2.1 _ (Mod.rowAt W9 w.heap.size CX), Mod.setRow HX.out.2.2.2.1 (.inl (Nat.le_refl _)) _⟩
end

section
open Go.RowKit
set_option linter.unusedVariables false
attribute [local go_sem ↓] Go.wp_at_zero Go.wp_at_succ
attribute [local go_sem ↓] store_fold alloc_fold load_fold slice_op_fold ten_zero_fold
/-! ### a tenant stored into a list -/
theorem ten_store_in {W : World} {b o : Nat} {cur CA : Array Value} {t : TypeId} (h : W.heap[b]? = some (.cells cur t (0, 0))) (ho : o + 33 ≤ cur.size) (hc : CA.size = 33) (h1 : CA.all (·.oneCell') = true) :
    (tenStore (.pointer (some ⟨b, o, none⟩)) (.agg CA)).run Tryd.prog W = .ok () (W.setRow b (splice cur.toList o CA.toList).toArray) := by
  have hl : CA.toList.length = 33 := by simpa using hc
  have := run_storeCells_at (P := Tryd.prog) b o t CA.toList 0 cur W h (by rw [hl]; omega) (fun v hv => (Array.all_eq_true_iff_forall_mem.1 h1) v (by simpa using hv))
  simp only [Nat.add_zero, hl] at this
  have hT := tenSize
  simp only [tenStore, Instr.storeAt, Instr.sureAddr, Sem.run_bind, Sem.run_pure, Result.andThen_ok, splice, hl]
  cases hq : Tryd.prog.info? 30 with
  | none => simp [hq] at hT
  | some i =>
    have hs : i.size = 33 := by simpa [hq] using hT
    simp [storeVar, sizeOf, typeInfo, hq, Value.cells, hs, hc, this]
theorem splice_get {cur ys : List Value} {s i : Nat} (hs : s + ys.length ≤ cur.length) : (splice cur s ys)[i]? = if i < s then cur[i]? else if i < s + ys.length then ys[i - s]? else cur[i]? := by
  unfold splice
  have hl : (cur.take s).length = s := by rw [List.length_take]; omega
  by_cases h1 : i < s
  · rw [if_pos h1, List.getElem?_append_left (by omega), List.getElem?_take_of_lt h1]
  · rw [if_neg h1, List.getElem?_append_right (by omega), hl]
    by_cases h2 : i < s + ys.length
    · rw [if_pos h2, List.getElem?_append_left (by omega)]
    · rw [if_neg h2, List.getElem?_append_right (by omega), List.getElem?_drop]
      congr 1
      omega
theorem tv_set (l : List TV) (k : Nat) (hk : k < l.length) (x : TV) (j : Nat) : (tvCells (l.set k x))[j]? = if j < k * 33 then (tvCells l)[j]? else if j < k * 33 + 33 then x.cells[j - k * 33]? else (tvCells l)[j]? := by
  have e1 : tvCells (l.set k x) = splice (tvCells l) (k * 33) x.cells := by
    unfold splice
    rw [tv_take l k (by omega), x.len, show k * 33 + 33 = (k + 1) * 33 by omega, tv_drop l (k + 1) (by omega), List.set_eq_take_append_cons_drop, if_pos hk]
    simp [tvCells]
  rw [e1, splice_get (by rw [tv_len, x.len]; omega), x.len]
theorem Lies.set {S : Nat → Prop} {base : Nat} {w : World} {A : Option Addr} {l : List TV} (h : Lies base w A (tvCells l)) {k : Nat} (hk : k < l.length) {x : TV} (hx : x.Rows S w) :
    ∃ b o R, A = some ⟨b, o, none⟩ ∧ base ≤ b ∧ ∀ V, Mod No w V → (tenStore (.pointer (some ⟨b, o + k * 33, none⟩)) (.agg x.cells.toArray)).run Tryd.prog V = .ok () (V.setRow b R) ∧ Lies base (V.setRow b R) A (tvCells (l.set k x)) := by
  rcases h with h | ⟨b, o, cur, rfl, hb, hg, hc⟩
  · have := tv_len l
    rw [h] at this
    simp at this
    omega
  · have hlen : o + l.length * 33 ≤ cur.size := by
      have h1 := tv_len l
      have h2 : (tvCells l)[l.length * 33 - 1]? = some ((tvCells l)[l.length * 33 - 1]'(by omega)) := List.getElem?_eq_getElem _
      have h3 := hc _ _ h2
      have := (Array.getElem?_eq_some_iff.1 h3).1
      omega
    refine ⟨b, o, (splice cur.toList (o + k * 33) x.cells).toArray, rfl, hb, fun V hV => ?_⟩
    have hg := hV.obj hg (fun f => f)
    have hrun := ten_store_in hg (o := o + k * 33) (CA := x.cells.toArray) (by omega) (by rfl) (TV.one hx)
    rw [show x.cells.toArray.toList = x.cells from rfl] at hrun
    refine ⟨hrun, .inr ⟨b, o, _, rfl, hb, setRow_heap _ _ _ _ _ _ hg, fun j u hj => ?_⟩⟩
    rw [tv_set l k hk] at hj
    rw [List.getElem?_toArray, splice_get (by rw [x.len]; simp; omega), x.len]
    by_cases h1 : j < k * 33
    · rw [if_pos h1] at hj
      rw [if_pos (by omega), Array.getElem?_toList]
      exact hc j u hj
    · rw [if_neg h1] at hj
      rw [if_neg (by omega)]
      by_cases h2 : j < k * 33 + 33
      · rw [if_pos h2] at hj
        rw [if_pos (by omega), show o + j - (o + k * 33) = j - k * 33 by omega]
        exact hj
      · rw [if_neg h2] at hj
        rw [if_neg (by omega), Array.getElem?_toList]
        exact hc j u hj
end

end Go.Proofs.YtfpfpeachmcfeaaDoor
