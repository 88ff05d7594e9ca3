/-
  lychseat.Config.
-/
import Derived.Test.YtfpfpeachmcfeaaDoorNamN
namespace Go.Proofs.YtfpfpeachmcfeaaDoor
open Go.RowKit
set_option linter.unusedVariables false
set_option linter.unusedSimpArgs false
attribute [local go_sem ↓] Go.wp_at_zero Go.wp_at_succ
attribute [local go_sem ↓] store_fold alloc_fold load_fold slice_op_fold ten_zero_fold con_load_fold con_alloc_fold con_store_fold con_zero_fold
attribute [local go_sem] run_store_func

def Con.zero0 : Con := ⟨0, M6.zero, M6.zero, M6.zero, K8.zero, 0⟩
def zCon : Array Value := Con.zero0.cells (.slice none 0 0)
theorem conAlloc_run (W : World) : (conAlloc (.tuple #[])).run Tryd.prog W = .ok (.pointer (some ⟨W.heap.size, 0, none⟩)) (W.alloc (.cells zCon 39)) := by kernel_rfl
theorem conZero_run (W : World) : conZero.run Tryd.prog W = .ok (.agg zCon) W := by kernel_rfl
theorem con_one (c : Con) (P : Option Addr) (a b : Nat) : (c.cells (.slice P a b)).all (·.oneCell') = true := by simp [Con.cells, Value.oneCell', u8v]
theorem conStore_row {W : World} {b : Nat} {old CA : Array Value} (h : W.heap[b]? = some (.cells old 39 (0, 0))) (ho : old.size = 29) (hc : CA.size = 29) (h1 : CA.all (·.oneCell') = true) :
    (conStore (.pointer (some ⟨b, 0, none⟩)) (.agg CA)).run Tryd.prog W = .ok () (W.setRow b CA) := by
  simp only [conStore, Instr.storeAt, Instr.sureAddr, Sem.run_bind, Sem.run_pure, Result.andThen_ok]
  exact run_storeVar_row _ _ _ _ old CA h (by rw [conSize, hc]) (by rw [ho, hc]) h1
theorem conStore_new (W : World) (CA : Array Value) (hc : CA.size = 29) (h1 : CA.all (·.oneCell') = true) : (conStore (.pointer (some ⟨W.heap.size, 0, none⟩)) (.agg CA)).run Tryd.prog (W.alloc (.cells zCon 39)) = .ok () (W.alloc (.cells CA 39)) := by
  rw [← setRow_alloc W zCon CA]
  exact conStore_row (at10 W _) rfl hc h1
def cB6 (a b c d e f : Value) : Sem Value := Instr.build 39 #[(0, a), (1, b), (2, c), (3, d), (4, e), (5, f)]
theorem cB6_fold (ρ : Operand → Value) (a b c d e f : Operand) (dst : Option Tmp) (ty : TypeId) (pos : String) (after : Array Edge) (gd : Option (Nat × Bool)) :
    execOp ρ { dst := dst, op := .build 39 #[(0, a), (1, b), (2, c), (3, d), (4, e), (5, f)], type := ty, pos := pos, after := after, guard := gd } = (do pure (Next.value (← cB6 (ρ a) (ρ b) (ρ c) (ρ d) (ρ e) (ρ f))) : Sem Next) := by
  show (do pure (Next.value (← Instr.build 39 (#[(0, a), (1, b), (2, c), (3, d), (4, e), (5, f)].map fun (i, x) => (i, ρ x)))) : Sem Next) = _
  have hm : (#[((0 : Nat), a), (1, b), (2, c), (3, d), (4, e), (5, f)].map fun (i, x) => (i, ρ x)) = #[(0, ρ a), (1, ρ b), (2, ρ c), (3, ρ d), (4, ρ e), (5, ρ f)] := by simp
  rw [hm]
  rfl
attribute [local go_sem ↓] cB6_fold
set_option maxRecDepth 100000 in
theorem cB6_run (ip dr : Int) (a0 a1 a2 a3 a4 a5 b0 b1 b2 b3 b4 b5 c0 c1 c2 c3 c4 c5 k0 k1 k2 k3 k4 k5 k6 k7 : Value) (W : World) :
    (cB6 (.int .u32 ip) (.agg #[a0, a1, a2, a3, a4, a5]) (.agg #[b0, b1, b2, b3, b4, b5]) (.agg #[c0, c1, c2, c3, c4, c5]) (.agg #[k0, k1, k2, k3, k4, k5, k6, k7]) (.int .u32 dr)).run Tryd.prog W =
      .ok (.agg #[.int .u32 ip, a0, a1, a2, a3, a4, a5, b0, b1, b2, b3, b4, b5, c0, c1, c2, c3, c4, c5, k0, k1, k2, k3, k4, k5, k6, k7, .int .u32 dr, .slice none 0 0]) W := by kernel_rfl
/-- The seat's settings, but for the tenants. -/
def seatCon (d : Nat) : Con := ⟨addr4 10 9 0 200, ⟨2, 1, 0, 0, 0, 0⟩, ⟨2, 2, 0, 0, 0, 0⟩, ⟨2, 3, 0, 0, 0, 0⟩, ⟨200, 0, 0, 0, 0, 0, 0, 0⟩, d % 8⟩
def u16Cells (l : List Nat) : List Value := l.map fun (n : Nat) => Value.int .u16 (n : Int)

theorem u16_at {Q : Nat → Prop} {w : World} {A : Option Addr} {l : List Nat} (h : RowAt Q w A (u16Cells l)) {k y : Nat} (hk : l[k]? = some y) : ∃ b o, A = some ⟨b, o, none⟩ ∧ w.cell? ⟨b, o + k, none⟩ = some (.int .u16 (y : Int)) := by
  have hc : (u16Cells l)[k]? = some (.int .u16 (y : Int)) := by unfold u16Cells; rw [List.getElem?_map, hk]; rfl
  obtain ⟨b, o, e, _, _, h1⟩ := h.open (by intro e; rw [e] at hc; simp at hc)
  exact ⟨b, o, e, h1 k _ hc⟩
def OwnT (base : Nat) (w : World) (v : Value) (l : List TV) : Prop := w.ownsRow base 30 33 v l.length (tvCells l)
/-- What Config gives: settings with a row of tenants of one's own, each tenant with lists of one's own. -/
def CfgP (ks : List Nat) (d : Nat) (w : World) : Ending → World → Prop := fun e w' => ∃ (v : Value) (l : List TV), e = .returned (.agg ((seatCon d).cells v)) ∧ OwnT w.heap.size w' v l ∧ (∀ x ∈ l, x.Rows (fun b => w.heap.size ≤ b ∧ v.ownBlock ≠ some b) w') ∧
  l.length = min ks.length 4 ∧ (∀ (i : Nat) (x : TV), l[i]? = some x → ∃ k, ks[i]? = some k ∧ x.t = seatTen i k) ∧ Mod No w w'
/-- The settings as they grow. -/
structure CfgSt (w : World) (ks : List Nat) (d : Nat) (wr : World) (v : Value) (l : List TV) (k : Nat) : Prop where
  b5 : wr.heap[w.heap.size + 1]? = some (.cells ((seatCon d).cells v) 39 (0, 0))
  b4 : wr.heap[w.heap.size]? = some (.cells zCon 39 (0, 0))
  own : OwnT (w.heap.size + 2) wr v l
  rows : ∀ x ∈ l, x.Rows (fun b => w.heap.size + 2 ≤ b ∧ v.ownBlock ≠ some b) wr
  len : l.length = k
  ts : ∀ (i : Nat) (x : TV), l[i]? = some x → ∃ k, ks[i]? = some k ∧ x.t = seatTen i k
  mod : Mod No w wr
theorem OwnT.open {base : Nat} {w : World} {v : Value} {l : List TV} (h : OwnT base w v l) : ∃ A c, v = .slice A l.length c ∧ l.length ≤ c ∧ RowAt (fun b => base ≤ b) w A (tvCells l) := RowAt.of_owns h
/-- A tenant appended to a row of one's own. -/
theorem appT {base : Nat} {wr U : World} {v : Value} {l : List TV} (ho : OwnT base wr v l) (hU : Mod No wr U) (hb : base ≤ wr.heap.size) (hl : l.length ≤ 100) {S : Nat → Prop} {x : TV} (hx : x.Rows S U) {g : Nat} (hg : U.heap[g]? = some (.cells x.cells.toArray 30 (0, 0))) :
    ∃ v3 w3, (Builtin.append_ #[37, 37] 37 #[v, .slice (some ⟨g, 0, none⟩) 1 1]).run Tryd.prog U = .ok v3 w3 ∧ OwnT base w3 v3 (l ++ [x]) ∧ Mod (fun j => v.ownBlock = some j) U w3 ∧ (v3.ownBlock = v.ownBlock ∨ v3.ownBlock = some U.heap.size) := by
  obtain ⟨i0, hi, hz0, hz1, hz2⟩ := info_parts infoTen
  have hoU : OwnT base U v l := own_mod ho hU (fun _ _ f => f)
  obtain ⟨v3, w3, hrun, ho3, hg3, hb3⟩ := run_append_row (P := Tryd.prog) (S := fun b => b < U.heap.size) U base 37 37 30 i0 _ 33 160 Tryd.underlying37 hi hz0 hz1 hz2 rfl (by decide) v _ _ hoU (some ⟨g, 0, none⟩) 1 1 x.cells
    (.inr ⟨g, 0, rfl, lt_of_block hg, fun j u hj => by rw [Nat.zero_add, blk_cell hg j, List.getElem?_toArray, hj]⟩) (by rw [TV.len]) (fun u hu => (Array.all_eq_true_iff_forall_mem.1 (TV.one hx)) u (by simpa using hu)) (by unfold maxLen; omega) (by omega) (by have := hU.size; omega)
  refine ⟨v3, w3, hrun, ?_, Mod.grown (Mod.refl _ _) hg3 (fun q hq => .inr hq), hb3⟩
  unfold OwnT
  rw [List.length_append, show tvCells (l ++ [x]) = tvCells l ++ x.cells from by simp [tvCells]]
  exact ho3
theorem CfgSt.next {w wr w10 w3 : World} {ks : List Nat} {d k kk N : Nat} {v v3 : Value} {l : List TV} {x : TV} {CX : Array Value} (h : CfgSt w ks d wr v l k) (hk : ks[k]? = some kk) (hxt : x.t = seatTen k kk) (m10 : Mod No wr w10) (hN : wr.heap.size ≤ N)
    (hxr : x.Rows (fun b => N ≤ b) w10) (ho3 : OwnT (w.heap.size + 2) w3 v3 (l ++ [x])) (hu : Mod (fun j => v.ownBlock = some j) (w10.alloc (.cells CX 30)) w3) (hb3 : v3.ownBlock = v.ownBlock ∨ v3.ownBlock = some (w10.alloc (.cells CX 30)).heap.size) :
    CfgSt w ks d (w3.setCell ⟨w.heap.size + 1, 28, none⟩ v3) v3 (l ++ [x]) (k + 1) := by
  have za : Mod (fun j => v.ownBlock = some j) wr w3 := ((m10.alloc _).mono (fun _ f => f.elim)).trans hu
  have lo : ∀ j, v.ownBlock = some j → w.heap.size + 2 ≤ j ∧ j < wr.heap.size := fun j hj => World.ownsRow.lt h.own j hj
  have lo3 : ∀ j, v3.ownBlock = some j → w.heap.size + 2 ≤ j := fun j hj => (World.ownsRow.lt ho3 j hj).1
  have k5 := za.obj h.b5 (fun f => by have := (lo _ f).1; omega)
  have k4 := za.obj h.b4 (fun f => by have := (lo _ f).1; omega)
  have ms : Mod (fun j => j = w.heap.size + 1) w3 (w3.setCell ⟨w.heap.size + 1, 28, none⟩ v3) := Mod.setCell (F := fun j => j = w.heap.size + 1) (p := ⟨w.heap.size + 1, 28, none⟩) (Mod.refl _ _) (.inr rfl) _
  have hs10 := m10.size
  refine ⟨(heap_setCell_row k5 _).trans rfl, ms.obj k4 (by omega), own_mod ho3 ms (fun j hj f => by have := lo3 j hj; omega), ?_, by rw [List.length_append, h.len]; rfl, ?_, ?_⟩
  · intro y hy
    rcases List.mem_append.1 hy with h1 | h1
    · have r1 := (h.rows y h1).lt (S' := fun b => (w.heap.size + 2 ≤ b ∧ v.ownBlock ≠ some b) ∧ b < wr.heap.size) (fun b hb hs => ⟨hs, hb⟩)
      have r2 := r1.keeps (za.keeps (fun b _ hb f => hb.1.2 f))
      have r3 := r2.keeps (ms.keeps (fun b _ hb f => by have := hb.1.1; omega))
      refine r3.imp (fun b hb => ⟨hb.1.1, fun f => ?_⟩)
      rcases hb3 with e | e
      · rw [e] at f; exact hb.1.2 f
      · rw [e] at f
        have h2 := hb.2
        simp at f
        omega
    · rw [List.mem_singleton.1 h1]
      have r1 := hxr.lt (S' := fun b => N ≤ b ∧ b < w10.heap.size) (fun b hb hs => ⟨hs, hb⟩)
      have r2 := r1.keeps (((Mod.refl No w10).alloc (.cells CX 30)).keeps (fun _ _ _ f => f))
      have r3 := r2.keeps (hu.keeps (fun b _ hb f => by have := (lo _ f).2; have := hb.1; omega))
      have hsz : w.heap.size + 1 < wr.heap.size := lt_of_block h.b5
      have r4 := r3.keeps (ms.keeps (fun b _ hb f => by have := hb.1; omega))
      refine r4.imp (fun b hb => ⟨by have := hb.1; omega, fun f => ?_⟩)
      rcases hb3 with e | e
      · rw [e] at f; have := (lo _ f).2; have := hb.1; omega
      · rw [e] at f
        have h2 := hb.2
        simp at f
        omega
  · intro i y hi
    by_cases hil : i < l.length
    · rw [List.getElem?_append_left hil] at hi
      exact h.ts i y hi
    · rw [List.getElem?_append_right (by omega)] at hi
      have h0 : i - l.length = 0 := by
        rcases Nat.eq_zero_or_pos (i - l.length) with h1 | h1
        · exact h1
        · rw [List.getElem?_eq_none (by simp; omega)] at hi; cases hi
      rw [h0] at hi
      cases hi
      have e : i = k := by have := h.len; omega
      subst e
      exact ⟨kk, hk, hxt⟩
  · have mF : Mod (fun j => v.ownBlock = some j ∨ j = w.heap.size + 1) wr (w3.setCell ⟨w.heap.size + 1, 28, none⟩ v3) := (za.mono (fun _ f => .inl f)).trans (ms.mono (fun _ f => .inr f))
    exact h.mod.trans' mF (fun i hi hj => by
      rcases hj with h1 | h1
      · have := (lo _ h1).1; omega
      · omega)
set_option maxRecDepth 100000 in
set_option maxHeartbeats 4000000 in
theorem seatCfg_ok {Q : Nat → Prop} {w : World} {A : Option Addr} {c n d : Nat} (ks : List Nat) (hx : RowAt Q w A (u16Cells ks)) (hn : n = ks.length) (hl : n ≤ 1000) (hks : ∀ k ∈ ks, k < 65536) (hd : d < 256) :
    Calls Tryd.prog 17 #[.slice A n c, .int .u8 (d : Int)] w (CfgP ks d w) := by
  obtain ⟨QQ, hQQ⟩ : ∃ QQ, QQ = CfgP ks d w := ⟨_, rfl⟩
  rw [← hQQ]
  have h1 := addr_ok (a := 10) (b := 9) (c := 0) (d := 200) (by omega) (by omega) (by omega) (by omega)
  have hal := conAlloc_run w
  have hal2 := conAlloc_run (w.alloc (.cells zCon 39))
  obtain ⟨ip, hip⟩ : ∃ z : Int, z = ((addr4 10 9 0 200 : Nat) : Int) := ⟨_, rfl⟩
  obtain ⟨z, hz⟩ : ∃ z : Int, z = (d : Int) := ⟨_, rfl⟩
  obtain ⟨z8, hz8⟩ : ∃ z : Int, z = ((d % 8 : Nat) : Int) := ⟨_, rfl⟩
  have c1 : z.tmod 8 = z8 := by rw [hz, hz8]; exact (Int.ofNat_tmod d 8).symm
  have c2 : IntKind.u8.wrap z8 = z8 := by rw [hz8]; exact wrap_u8 _ (by omega)
  have c3 : IntKind.u32.wrap z8 = z8 := by rw [hz8]; exact wrap_u32 _ (by omega)
  have hb : ∀ U, (cB6 (.int .u32 ip) (.agg #[.int .u8 2, .int .u8 1, .int .u8 0, .int .u8 0, .int .u8 0, .int .u8 0]) (.agg #[.int .u8 2, .int .u8 2, .int .u8 0, .int .u8 0, .int .u8 0, .int .u8 0]) (.agg #[.int .u8 2, .int .u8 3, .int .u8 0, .int .u8 0, .int .u8 0, .int .u8 0])
      (.agg #[.int .u8 200, .int .u8 0, .int .u8 0, .int .u8 0, .int .u8 0, .int .u8 0, .int .u8 0, .int .u8 0]) (.int .u32 z8)).run Tryd.prog U = .ok (.agg ((seatCon d).cells (.slice none 0 0))) U := fun U => by rw [hip, hz8]; exact (cB6_run _ _ _ _ _ _ _ _ _ _ _ _ _ _ _ _ _ _ _ _ _ _ _ _ _ _ _ _ U)
  have hst := conStore_new (w.alloc (.cells zCon 39)) ((seatCon d).cells (.slice none 0 0)) rfl (con_one _ _ _ _)
  rw [show (w.alloc (.cells zCon 39)).heap.size = w.heap.size + 1 by simp] at hst hal2
  obtain ⟨C0, hC0⟩ : ∃ C, C = (seatCon d).cells (.slice none 0 0) := ⟨_, rfl⟩
  rw [← hC0] at hb hst
  rw [← hip] at h1
  rw [← hz]
  have H := Lib.hid (And.intro hx (And.intro hn (And.intro hks (And.intro hd (And.intro hQQ hC0)))))
  clear hx hn hks hd hQQ hC0 hip hz hz8
  go_enter Tryd.func17, Tryd.ntmps17
  go_upto_region 2 with (first
    | (go_at_call 23; refine (h1 _).mono ?_; rintro e w1 ⟨rfl, e9⟩; rw [e9]; clear e9 w1))
  refine grab_w fun V hV => ?_
  have hs0 : CfgSt w ks d V (.slice none 0 0) [] 0 := by
    rw [hV]
    refine ⟨by rw [← H.out.2.2.2.2.2]; exact at21 w _ _, at20 w _ _, ⟨rfl, .inl ⟨rfl, rfl⟩⟩, by simp, rfl, by simp, ((Mod.refl _ _).alloc _).alloc _⟩
  obtain ⟨g4, hg4⟩ : ∃ g, g = w.heap.size := ⟨_, rfl⟩
  obtain ⟨g5, hg5⟩ : ∃ g, g = w.heap.size + 1 := ⟨_, rfl⟩
  rw [← hg4]
  rw [← hg4] at hg5
  rw [← hg5]
  have H0 := Lib.hid (And.intro hs0 (And.intro hg4 hg5))
  clear hs0 hg4 hg5 hV hst hal hal2 hb h1 c1 c2 c3
  go_wp2_with fail
  go_loopw [6] (fun i wr => ∃ (k : Nat) (v : Value) (l : List TV), i = .int .i64 k ∧ k ≤ n ∧ k ≤ 4 ∧ CfgSt w ks d wr v l k) (fun i _ => n - (intOf i).toNat)
  case atStart => exact ⟨0, _, _, rfl, by omega, by omega, H0.out.1⟩
  case round =>
    obtain ⟨k, v, l, rfl, hkn, hk4, hs⟩ := hrel
    have b5 : wr.heap[g5]? = some (.cells ((seatCon d).cells v) 39 (0, 0)) := by rw [H0.out.2.2, H0.out.2.1]; exact hs.b5
    have b4 : wr.heap[g4]? = some (.cells zCon 39 (0, 0)) := by rw [H0.out.2.1]; exact hs.b4
    obtain ⟨A', c', hv, _, _⟩ := hs.own.open
    subst hv
    by_cases hk : k < n ∧ k < 4
    · obtain ⟨kk, hkk⟩ : ∃ kk, ks[k]? = some kk := ⟨_, List.getElem?_eq_getElem (by have := H.out.2.1; omega)⟩
      obtain ⟨b, o, rfl, hkc⟩ := u16_at ((H.out.1.mono (S' := fun b => Q b ∧ b < w.heap.size) (fun b hb hs => ⟨hs, hb⟩)).keeps (hs.mod.keeps (fun _ _ _ f => f))) hkk
      have hkk6 := H.out.2.2.1 kk (List.mem_of_getElem? hkk)
      have y1 : wr.cell? ⟨g5, 28, none⟩ = some (.slice A' l.length c') := (blk_cell b5 28).trans rfl
      have hg5w : g5 < wr.heap.size := lt_of_block b5
      have hg5b : g5 < w.heap.size + 2 := by rw [H0.out.2.2, H0.out.2.1]; omega
      have hsz : w.heap.size + 2 ≤ wr.heap.size := by rw [H0.out.2.2, H0.out.2.1] at hg5w; omega
      have hn5 : ¬ (Value.slice A' l.length c').ownBlock = some g5 := fun f => by have := (World.ownsRow.lt hs.own g5 f).1; omega
      have hold : ∀ w', Mod (fun j => (Value.slice A' l.length c').ownBlock = some j) wr w' → w'.cell? ⟨g5, 28, none⟩ = some (.slice A' l.length c') ∧ w'.frozen? ⟨g5, 28, none⟩ = false := fun w' hw' => by
        have h1 := hw'.obj b5 hn5
        exact ⟨(blk_cell h1 28).trans rfl, blk_free h1 28⟩
      have hkold : ∀ w', Mod No wr w' → w'.cell? ⟨b, o + k, none⟩ = some (.int .u16 (kk : Int)) := fun w' hw' => hw'.cell hkc (fun f => f)
      have happ : ∀ (U : World) (x : TV) (g : Nat), Mod No wr U → (∃ S, x.Rows S U) → U.heap[g]? = some (.cells x.cells.toArray 30 (0, 0)) → ∃ v3 w3, (Builtin.append_ #[37, 37] 37 #[.slice A' l.length c', .slice (some ⟨g, 0, none⟩) 1 1]).run Tryd.prog U = .ok v3 w3 ∧ OwnT (w.heap.size + 2) w3 v3 (l ++ [x]) ∧ Mod (fun j => (Value.slice A' l.length c').ownBlock = some j) U w3 ∧ (v3.ownBlock = (Value.slice A' l.length c').ownBlock ∨ v3.ownBlock = some U.heap.size) :=
        fun U x g hU ⟨S, hx⟩ hg => appT hs.own hU hsz (by have := hs.len; omega) hx hg
      have HA := Lib.hid happ
      have HO := Lib.hid hold
      have HKO := Lib.hid hkold
      have HS := Lib.hid (And.intro hs (And.intro hkk (And.intro hsz hn5)))
      have HT := Lib.hid (fun U => seatTen_ok (i := k) (k := kk) (by omega) hkk6 U)
      have p1 : (0:Int) ≤ k := by omega
      have p2 : (k:Int) < n := by omega
      have p3 : (k:Int) < 4 := by omega
      clear happ hold hkold hs hkk b5 b4 hkk6 hn5 hsz hg5b
      go_wp2_with fail
      go_region_law (first
        | (go_simp; go_at_call 19; refine (HT.out _).mono ?_; rintro e w10 ⟨x, rfl, hxt, hxr, hm10⟩; have zz : Mod No wr w10 := Mod.trans (by repeat (first | with_reducible exact Mod.refl _ _ | refine Mod.alloc ?_ _ | refine Mod.drew ?_)) hm10; obtain ⟨y4, y5⟩ := HO.out w10 (zz.mono (fun _ f => f.elim)); have y6 := HKO.out w10 zz; have HX := Lib.hid (And.intro hxt (And.intro hxr (And.intro zz hm10))); obtain ⟨CX, hCX⟩ : ∃ C, C = x.cells.toArray := ⟨_, rfl⟩; rw [← hCX]; have hts := ten_build CX (by rw [hCX]; rfl); have hts' : ∀ U, (tenSlice (.agg CX)).run Tryd.prog U = .ok (.slice (some ⟨U.heap.size, 0, none⟩) 1 1) (U.alloc (.cells CX 30)) := hts; obtain ⟨z4, z5⟩ := HO.out (w10.alloc (.cells CX 30)) ((zz.alloc _).mono (fun _ f => f.elim)); have z6 := HKO.out (w10.alloc (.cells CX 30)) (zz.alloc _); have HCX := Lib.hid hCX; clear hxt hxr zz hm10 hCX hts)
        | (obtain ⟨v3, w3, hrun, ho3, hu, hb3⟩ := HA.out (w10.alloc (.cells CX 30)) x w10.heap.size (HX.out.2.2.1.alloc _) ⟨_, HX.out.2.1.keeps (((Mod.refl No w10).alloc _).keeps (fun _ _ _ f => f))⟩ (by rw [← HCX.out]; exact at10 _ _); obtain ⟨K3, ck3, hv3, _, _⟩ := ho3.open; subst hv3; refine step_append_run (by rfl) _ _ _ _ (by rfl) _ _ (by rfl) (by rfl) _ _ hrun ?_; obtain ⟨y7, y8⟩ := HO.out w3 (((HX.out.2.2.1.alloc _).mono (fun _ f => f.elim)).trans hu); have H3 := Lib.hid (And.intro ho3 (And.intro hu hb3)); clear hrun ho3 hu hb3))
      all_goals
        go_wp2_with fail
        have hnx := HS.out.1.next HS.out.2.1 HX.out.1 HX.out.2.2.1 (N := wr.heap.size) (Nat.le_refl _) HX.out.2.1 H3.out.1 H3.out.2.1 H3.out.2.2
        rw [List.length_append] at hnx
        rw [← H0.out.2.1, ← H0.out.2.2] at hnx
        exact ⟨⟨k + 1, _, _, by go_num, by omega, by omega, hnx⟩, by simp [intOf]; omega⟩
    · as_aux_lemma =>
      have hkm : k = min n 4 := by omega
      obtain ⟨CA, hCA⟩ : ∃ CA, CA = (seatCon d).cells (.slice A' l.length c') := ⟨_, rfl⟩
      have hld := conLoad_run b5 rfl
      have hst := conStore_row b4 rfl (CA := (seatCon d).cells (.slice A' l.length c')) rfl (con_one _ _ _ _)
      rw [← hCA] at hld hst
      have HS := Lib.hid (And.intro hs (And.intro hkm (And.intro hCA b4)))
      clear hs hkm hCA b4 b5
      have hfin : ∀ U, U = wr.setRow g4 CA → QQ (.returned (.agg CA)) U := fun U hU => by
        rw [hU, H.out.2.2.2.2.1]
        obtain ⟨hs, hkm, hCA, b4⟩ := HS.out
        have hmr : Mod (fun j => j = g4) wr (wr.setRow g4 CA) := Mod.rowAt _ _ _
        have hg4 := H0.out.2.1
        refine ⟨.slice A' l.length c', l, by rw [hCA], ?_, ?_, by rw [hs.len, hkm, ← H.out.2.1], hs.ts, ?_⟩
        · have h1 : OwnT (w.heap.size + 2) (wr.setRow g4 CA) (.slice A' l.length c') l := own_mod hs.own hmr (fun j hj f => by have := (World.ownsRow.lt hs.own j hj).1; omega)
          refine ⟨h1.1, ?_⟩
          rcases h1.2 with h2 | ⟨g, cap, cur, e, hg, rest⟩
          · exact .inl h2
          · exact .inr ⟨g, cap, cur, e, by omega, rest⟩
        · intro x hx
          exact ((hs.rows x hx).keeps (hmr.keeps (fun b _ hb f => by have := hb.1; omega))).imp (fun b hb => ⟨by have := hb.1; omega, hb.2⟩)
        · exact hs.mod.trans' hmr (fun i hi hj => by omega)
      have HF := Lib.hid hfin
      have hb4 := HS.out.2.2.2
      have hsz2 : CA.size = 29 := by rw [HS.out.2.2.1]; rfl
      clear hfin
      by_cases hk1 : k < n
      · have p2 : (k:Int) < n := by omega
        have p3 : ¬ (k:Int) < 4 := by omega
        go_wp2
        refine bodyPost_ret (results_cell_row rfl _ _ g4 39 CA (0, 0) _ rfl (setRow_heap _ _ _ _ _ _ hb4) Tryd.underlying39 rfl (by rw [conSize, hsz2])) rfl ?_
        exact HF.out _ rfl
      · have p2 : ¬ (k:Int) < n := by omega
        go_wp2
        refine bodyPost_ret (results_cell_row rfl _ _ g4 39 CA (0, 0) _ rfl (setRow_heap _ _ _ _ _ _ hb4) Tryd.underlying39 rfl (by rw [conSize, hsz2])) rfl ?_
        exact HF.out _ rfl

end Go.Proofs.YtfpfpeachmcfeaaDoor
