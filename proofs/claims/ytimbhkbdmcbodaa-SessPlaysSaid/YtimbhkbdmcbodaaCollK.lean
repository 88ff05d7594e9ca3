/-
  slices.AppendSeq, slices.Collect at keys of sessions, against whatever iterator (the shelf's proof at strings, turned to elements of three cells).
-/
import Derived.Test.YtimbhkbdmcbodaaSessA
import Derived.Deep.WholeRow
import Derived.Deep.MidRow
import Derived.Great.BuildSlice
import Derived.Shelf.SlIter.Collect
import Derived.Lib.Hide
import Derived.Shelf.Abstract
import Derived.Shelf.RegionOpen
import Derived.OwnWalkIn
import Derived.TacticsInMore
import Derived.LoopNIn
import Derived.LoopIn
namespace Go.Proofs.Ytimbhkbdmcbodaa
open Go.RowKit Go.Shelf
set_option linter.unusedVariables false
attribute [local go_sem] Oper.semAt_some

/-! ### a key's operations under names of their own -/
def zKey : Array Value := #[.int .u8 0, .int .u32 0, .int .u16 0]
theorem infoKey : (Try.prog.info? 31).map (fun i => (i.zero, i.size, i.bytes)) = some (some (.agg zKey), 3, 12) := by kernel_rfl
theorem sizeKey : (Try.prog.info? 31).map (·.size) = some 3 := by kernel_rfl
def Key.cells (k : Key) : List Value := [.int .u8 k.proto, .int .u32 k.pt.ip, .int .u16 k.pt.port]
theorem Key.val_cells (k : Key) : k.val = .agg k.cells.toArray := rfl
theorem Key.cells_len (k : Key) : k.cells.length = 3 := rfl
theorem Key.one (k : Key) : ∀ u ∈ k.cells, u.oneCell' = true := by intro u hu; simp [Key.cells] at hu; rcases hu with rfl | rfl | rfl <;> rfl
def kyAlloc (v : Value) : Sem Value := Instr.alloc 31 true v
theorem ky_alloc_fold (v : Value) : Instr.alloc 31 true v = kyAlloc v := rfl
def kyStore (p v : Value) : Sem Unit := Instr.storeAt 31 p v
theorem ky_store_fold (p v : Value) : Instr.storeAt 31 p v = kyStore p v := rfl
def kyLoad (v : Value) : Sem Value := Instr.loadAt 31 v
theorem ky_load_fold (v : Value) : Instr.loadAt 31 v = kyLoad v := rfl
def kySlice (v : Value) : Sem Value := Instr.buildSlice 70 1 #[(0, v)]
theorem ky_slice_fold (ρ : Operand → Value) (x : Operand) (dst : Option Tmp) (ty : TypeId) (pos : String) (after : Array Edge) (g : Option (Nat × Bool)) :
    execOp ρ { dst := dst, op := .buildSlice 70 1 #[(0, x)], type := ty, pos := pos, after := after, guard := g } = (do pure (Next.value (← kySlice (ρ x))) : Sem Next) := by
  show (do pure (Next.value (← Instr.buildSlice 70 1 (#[(0, x)].map fun (i, x) => (i, ρ x)))) : Sem Next) = _
  have hm : (#[((0 : Nat), x)].map fun (i, x) => (i, ρ x)) = #[(0, ρ x)] := by simp
  rw [hm]
  rfl
theorem kyAlloc_run (W : World) : (kyAlloc (.tuple #[])).run Try.prog W = .ok (.pointer (some ⟨W.heap.size, 0, none⟩)) (W.alloc (.cells zKey 31)) := by kernel_rfl
theorem kyStore_new (W : World) (k : Key) : (kyStore (.pointer (some ⟨W.heap.size, 0, none⟩)) k.val).run Try.prog (W.alloc (.cells zKey 31)) = .ok () (W.alloc (.cells k.cells.toArray 31)) :=
  run_storeAt_new W 31 zKey k.cells.toArray sizeKey rfl (all_oneCell_toArray k.one)
theorem kyLoad_run {W : World} {b o : Nat} {k : Key} (h : ∀ j v, k.cells[j]? = some v → W.cell? ⟨b, o + j, none⟩ = some v) : (kyLoad (.pointer (some ⟨b, o, none⟩))).run Try.prog W = .ok k.val W :=
  run_loadAt_mid W b o _ k.cells _ h Try.underlying31 rfl sizeKey
theorem kySlice_run (k : Key) (W : World) : (kySlice k.val).run Try.prog W = .ok (.slice (some ⟨W.heap.size, 0, none⟩) 1 1) (W.alloc (.cells k.cells.toArray 31)) := by
  have hi := infoKey
  cases hie : Try.prog.info? 31 with
  | none => rw [hie] at hi; simp at hi
  | some ie =>
    rw [hie] at hi
    simp only [Option.map_some, Option.some.injEq, Prod.mk.injEq] at hi
    refine Go.run_buildSlice W _ 31 1 _ k.cells.toArray ie _ Try.underlying70 hie hi.1 (by rw [hi.2.1]; decide) (by rw [hi.2.1]; decide) ?_
    rw [hi.2.1]
    kernel_rfl
attribute [local go_sem ↓] ky_alloc_fold ky_store_fold ky_load_fold ky_slice_fold

/-! ### AppendSeq -/
def kpAssign : Code := (Code.region 2 #[{ dst := some 5, op := Op.alloc 31, type := 0, pos := "iter.go:51", after := #[], guard := none }, { dst := none, op := Op.store 31 (Operand.tmp 5) (Operand.tmp 7), type := 0, pos := "iter.go:51", after := #[{ on := 0, ground := Ground.data }, { on := 0, ground := Ground.phase }], guard := none }] false)
def kpBody : Code := (Code.block 1 (Code.region 3 #[{ dst := some 8, op := Op.load 70 (Operand.tmp 2), type := 70, pos := "iter.go:52", after := #[], guard := none }, { dst := some 9, op := Op.load 31 (Operand.tmp 5), type := 31, pos := "iter.go:52", after := #[], guard := none }, { dst := some 10, op := Op.buildSlice 70 1 #[(0, Operand.tmp 9)], type := 70, pos := "iter.go:52", after := #[{ on := 1, ground := Ground.data }], guard := none }, { dst := some 11, op := Op.call { callee := Callee.builtin Builtin.append, args := #[Operand.tmp 8, Operand.tmp 10], argTypes := #[70, 70] }, type := 70, pos := "iter.go:52", after := #[{ on := 0, ground := Ground.data }, { on := 2, ground := Ground.data }], guard := none }, { dst := none, op := Op.store 70 (Operand.tmp 2) (Operand.tmp 11), type := 0, pos := "iter.go:52", after := #[{ on := 3, ground := Ground.data }, { on := 3, ground := Ground.chain }, { on := 0, ground := Ground.phase }, { on := 1, ground := Ground.phase }, { on := 2, ground := Ground.phase }, { on := 3, ground := Ground.phase }], guard := none }] false))
/-- The loop's record. -/
def kpRec (fn : FuncId) (sv : Value) (Bs D : Nat) (st : LoopState) (pend : Option Code) : Loop :=
  { state := st, pending := pend, fn, tmps := #[.slice none 0 0, sv, .pointer (some ⟨Bs, 0, none⟩), undef, .slice none 0 0, undef, sv, undef, undef, undef, undef, undef, undef], params := #[7], assign := kpAssign, body := kpBody, defers := D }
/-- Between two rounds. -/
structure KpAt (w0 : World) (fn : FuncId) (sv : Value) (Bs l D : Nat) (ss : List Key) (W : World) : Prop where
  box : ∃ v, W.heap[Bs]? = some (.cells #[v] 70 (0, 0)) ∧ W.ownsRow w0.heap.size 31 3 v ss.length (ss.flatMap Key.cells)
  L : W.heap[l]? = some (.loop (kpRec fn sv Bs D .ready none))
  K : W.heap[D]? = some (.deferred (some []))
  below : Below w0.heap.size w0 W
theorem kp_abides (w0 : World) (fn : FuncId) (sv : Value) (Bs l D B : Nat) (hB : w0.heap.size ≤ B) : AbidesFrom B (KpAt w0 fn sv Bs l D) := fun s W W' row h hg hrow => by
  have hrow' : ∀ r, row = some r → ∃ o : Obj, W.heap[r]? = some o ∧ o.isWalk = true := fun r e => (hrow r e).2
  obtain ⟨v, hv, hr⟩ := h.box
  exact ⟨⟨v, (grownBy_keeps hg hrow' hv rfl).trans hv, ownsRow_abides_a hr hg hrow'⟩, (grownBy_keeps hg hrow' h.L rfl).trans h.L, (grownBy_keeps hg hrow' h.K rfl).trans h.K,
    h.below.grown hg h.below.size (fun k e => Nat.le_trans hB (hrow k e).1)⟩

set_option maxRecDepth 100000 in
set_option maxHeartbeats 2000000 in
theorem kpYield (F : Fence) (m : Nat) (w0 : World) (fn : FuncId) (hfn : F.fn fn) (sv : Value) (Bs l D : Nat) (hBl : Bs ≠ l) (hDl : D ≠ l) (hDB : D ≠ Bs) (h0B : w0.heap.size ≤ Bs) (h0l : w0.heap.size ≤ l)
    (N : Nat) (hN : N ≤ 1000000) (ss : List Key) (x : Key) (W : World) (h : KpAt w0 fn sv Bs l D ss W) (hlen : ss.length < N) :
    YieldAt F m Try.prog l #[x.val] W fun e W' => e = .returned (.bool true) ∧ KpAt w0 fn sv Bs l D (ss ++ [x]) W' ∧ KeepsWalks W W' := by
  have hne : (70 : TypeId) ≠ 31 := by decide
  obtain ⟨i0, hi, hz0, hz1, hz2⟩ := info_parts infoKey
  obtain ⟨v, hv, hrow⟩ := h.box
  refine ⟨fn, #[.slice none 0 0, sv, .pointer (some ⟨Bs, 0, none⟩), undef, .slice none 0 0, undef, sv, x.val, undef, undef, undef, undef, undef], kpAssign, kpBody, by simpa [kpRec] using run_yield (P := Try.prog) (args := #[x.val]) h.L rfl, roundIn_of_wpIn hfn ?_⟩
  -- the loop's variable
  have hal := kyAlloc_run W
  have hst := kyStore_new W x
  obtain ⟨W1, hW1⟩ : ∃ W1, W1 = W.alloc (.cells x.cells.toArray 31) := ⟨_, rfl⟩
  have hold1 : ∀ k, k < W.heap.size → W1.heap[k]? = W.heap[k]? := fun k hk => by rw [hW1]; exact Below.heap_alloc _ _ k hk
  have hv1 := (hold1 Bs (Array.getElem?_eq_some_iff.1 hv).1).trans hv
  have hL1 := (hold1 l (Array.getElem?_eq_some_iff.1 h.L).1).trans h.L
  have hK1 := (hold1 D (Array.getElem?_eq_some_iff.1 h.K).1).trans h.K
  have hrow1 : W1.ownsRow w0.heap.size 31 3 v ss.length (ss.flatMap Key.cells) := by rw [hW1]; exact hrow.alloc _
  have hb1 : Below w0.heap.size w0 W1 := by rw [hW1]; exact h.below.alloc h.below.size _
  have hk1 : KeepsWalks W W1 := by rw [hW1]; exact KeepsWalks.alloc _ _
  have hx1 : W1.heap[W.heap.size]? = some (.cells x.cells.toArray 31 (0, 0)) := by rw [hW1]; exact at10 _ _
  have hlt1 : W.heap.size < W1.heap.size := lt_of_block hx1
  have hxl : W.heap.size ≠ l := by have := (Array.getElem?_eq_some_iff.1 h.L).1; omega
  rw [← hW1] at hst
  obtain ⟨g5, hg5⟩ : ∃ g, g = W.heap.size := ⟨_, rfl⟩
  rw [← hg5] at hal hst hx1 hlt1 hxl
  have HG5 := Lib.hid hg5
  clear hg5
  -- the round begins
  have hl : l < W1.heap.size := (Array.getElem?_eq_some_iff.1 hL1).1
  have hbr := run_beginRound (P := Try.prog) hL1 rfl
  obtain ⟨W3, hW3⟩ : ∃ W3, W1.putObj l (.loop { kpRec fn sv Bs D .ready none with state := .busy }) = W3 := ⟨_, rfl⟩
  rw [hW3] at hbr
  have hg3 : W1.grownBy W3 (some l) := by rw [← hW3]; exact grownBy_putObj_a _ _ _
  have hk3 : KeepsWalks W W3 := hk1.trans (by rw [← hW3]; exact KeepsWalks.putObj _ hL1 rfl)
  have hv3 : W3.heap[Bs]? = some (.cells #[v] 70 (0, 0)) := by rw [← hW3]; exact (World.putObj_heap_other hBl).trans hv1
  have hK3 : W3.heap[D]? = some (.deferred (some [])) := by rw [← hW3]; exact (World.putObj_heap_other hDl).trans hK1
  have hL3 : W3.heap[l]? = some (.loop { kpRec fn sv Bs D .ready none with state := .busy }) := by rw [← hW3]; exact World.putObj_heap_same hl
  have hx3 : W3.heap[g5]? = some (.cells x.cells.toArray 31 (0, 0)) := by rw [← hW3]; exact (World.putObj_heap_other hxl).trans hx1
  have hrow3 : W3.ownsRow w0.heap.size 31 3 v ss.length (ss.flatMap Key.cells) := hrow1.kept hg3 (ownsRow_ne_a hrow1 hL1 (fun cur e => by first | cases e | exact hne (Obj.cells.inj e).2.1))
  have hb3 : Below w0.heap.size w0 W3 := hb1.grown hg3 hb1.size (fun k e => by cases e; exact h0l)
  have hld : (kyLoad (.pointer (some ⟨g5, 0, none⟩))).run Try.prog W3 = .ok x.val W3 := kyLoad_run (fun j u hj => by rw [Nat.zero_add]; exact (blk_cell hx3 j).trans (by simpa using hj))
  have hsl := kySlice_run x W3
  obtain ⟨X, hX⟩ : ∃ X, X = x.val := ⟨_, rfl⟩
  rw [← hX] at hst hld hsl ⊢
  have HX := Lib.hid hX
  clear hX
  obtain ⟨hc3, hf3⟩ := cell_of_box_a hv3
  have hBlt : Bs < W3.heap.size := (Array.getElem?_eq_some_iff.1 hv3).1
  have hl3 : l < W3.heap.size := (Array.getElem?_eq_some_iff.1 hL3).1
  have hDlt : D < W3.heap.size := (Array.getElem?_eq_some_iff.1 hK3).1
  have ne_of : ∀ {j : Nat} {o : Obj}, W3.heap[j]? = some o → (∀ cur, o ≠ .cells cur 31 (0, 0)) → some j ≠ v.ownBlock := fun hj hno => by
    rcases ownsRow_ne_a hrow3 hj hno with e | e
    · rw [e]; simp
    · exact fun e' => e e'.symm
  clear hold1 hx1 hx3 hg3 hv1 hK1 hrow1 hb1 hk1 hW3 hW1
  unfold kpAssign
  gi_wp2_with fail
  unfold kpBody
  gi_wp2_with (first
    | (gi_at_builtin; refine wpListIn_append_own _ rfl _ _ 70 rfl w0.heap.size 31 i0 (.agg zKey) 3 12 Try.underlying70 hi hz0 hz1 hz2 rfl (by decide) _ _ _ rfl (hrow3.alloc _) ⟨W3.heap.size, 0, none⟩ 1 1 x.cells rfl rfl (fun j u hj => by rw [Addr.add_lit, Nat.zero_add]; exact (blk_cell (at10 W3 _) j).trans (by simpa using hj)) x.one (by unfold maxLen; omega) (by omega) (by have := hb3.size; simp; omega) ?_; intro v' w4 hown' hg4 hnil4
       have hv4 : w4.heap[Bs]? = some (.cells #[v] 70 (0, 0)) := (hg4.block Bs (by simp; omega) (ne_of hv3 (fun cur e => by first | cases e | exact hne (Obj.cells.inj e).2.1))).trans ((Below.heap_alloc _ _ Bs hBlt).trans hv3)
       obtain ⟨hc4, hf4⟩ := cell_of_box_a hv4
       obtain ⟨g', cap', cur', rfl, hbase', hgb', hr1, hr2, hr3, hr4⟩ : ∃ g' cap' cur', v' = .slice (some ⟨g', 0, none⟩) (ss.length + 1) cap' ∧ w0.heap.size ≤ g' ∧ w4.heap[g']? = some (.cells cur' 31 (0, 0)) ∧ ss.length + 1 ≤ cap' ∧ cap' ≤ maxLen ∧ cur'.size = cap' * 3 ∧ cur'.toList.take ((ss.length + 1) * 3) = ss.flatMap Key.cells ++ x.cells := by
         rcases hown'.2 with ⟨_, h0⟩ | h'
         · exact absurd h0 (by omega)
         · exact h')
    | fail)
  have hg4' : (W3.alloc (.cells x.cells.toArray 31)).grownBy w4 v.ownBlock := hg4
  have hL4 : w4.heap[l]? = some (.loop { kpRec fn sv Bs D .ready none with state := .busy }) := (hg4'.block l (by simp; omega) (ne_of hL3 (fun cur e => by first | cases e | exact hne (Obj.cells.inj e).2.1))).trans ((Below.heap_alloc _ _ l hl3).trans hL3)
  have hK4 : w4.heap[D]? = some (.deferred (some [])) := (hg4'.block D (by simp; omega) (ne_of hK3 (fun cur e => by first | cases e | exact hne (Obj.cells.inj e).2.1))).trans ((Below.heap_alloc _ _ D hDlt).trans hK3)
  obtain ⟨w5, hw5⟩ : ∃ w5, w4.setCell ⟨Bs, 0, none⟩ (.slice (some ⟨g', 0, none⟩) (ss.length + 1) cap') = w5 := ⟨_, rfl⟩
  rw [hw5]
  have hg5 : w4.grownBy w5 (some Bs) := by rw [← hw5]; exact grownBy_setCell0_a _ _ _
  have hv5 : w5.heap[Bs]? = some (.cells #[.slice (some ⟨g', 0, none⟩) (ss.length + 1) cap'] 70 (0, 0)) := by rw [← hw5]; exact heap_setCell_box_a _ hv4
  have hL5 : w5.heap[l]? = some (.loop { kpRec fn sv Bs D .ready none with state := .busy }) := (hg5.block l (Array.getElem?_eq_some_iff.1 hL4).1 (fun e => hBl (by cases e; rfl))).trans hL4
  have hK5 : w5.heap[D]? = some (.deferred (some [])) := (hg5.block D (Array.getElem?_eq_some_iff.1 hK4).1 (fun e => hDB (by cases e; rfl))).trans hK4
  have hrow5 := hown'.kept hg5 (ownsRow_ne_a hown' hv4 (fun cur e => by first | cases e | exact hne (Obj.cells.inj e).2.1))
  have hl5 : l < w5.heap.size := (Array.getElem?_eq_some_iff.1 hL5).1
  have hb4 : Below w0.heap.size w0 w4 := (hb3.alloc hb3.size _).grown hg4' (by have := hb3.size; simp; omega) (fun k e => (hrow3.lt k e).1)
  have hb5 : Below w0.heap.size w0 w5 := hb4.grown hg5 hb4.size (fun k e => by cases e; exact h0B)
  have hk5 : KeepsWalks W w5 := ((hk3.trans (KeepsWalks.alloc _ _)).trans (KeepsWalks.of_grownBy hg4' (ownsRow_not_walk_a (hrow3.alloc _)))).trans (by rw [← hw5]; exact KeepsWalks.setCell _ _ _)
  clear hw5
  refine ⟨_, _, run_endRound none hL5, rfl, ⟨⟨_, (World.putObj_heap_other hBl).trans hv5, ?_⟩, World.putObj_heap_same hl5, (World.putObj_heap_other hDl).trans hK5, hb5.grown (grownBy_putObj_a _ _ _) hb5.size (fun k e => by cases e; exact h0l)⟩, hk5.trans (KeepsWalks.putObj _ hL5 rfl)⟩
  have := hrow5.kept (grownBy_putObj_a w5 l (.loop { { kpRec fn sv Bs D .ready none with state := .busy } with state := if (none : Option Code).isNone then .ready else .done, pending := none })) (ownsRow_ne_a hrow5 hL5 (fun cur e => by first | cases e | exact hne (Obj.cells.inj e).2.1))
  simpa using this

set_option maxRecDepth 100000 in
set_option maxHeartbeats 2000000 in
/-- slices.AppendSeq(nil, seq), against whatever iterator. -/
theorem appendSeqK (F : Fence) (n : Nat) (h11 : F.fn 52) (hro : F.round = none) (hn : 2 ≤ n) (g : Nat) (lb : Array Value) (hFg : F.fn g) (eg : ∀ args w, (callFunc g args).run Try.prog w = .ok (.enter g args) w)
    (S : List Key → Prop) (N : Nat) (hN : N ≤ 1000000) (w : World) (hseq : SeqGives F (n - 1) Try.prog g lb Key.val S N w) :
    CallsIn F n Try.prog 52 #[.slice none 0 0, .func (.func g) #[] lb] w fun e w' => ∃ (v : Value) (ss : List Key), e = .returned v ∧ S ss ∧ w'.ownsRow w.heap.size 31 3 v ss.length (ss.flatMap Key.cells) ∧ Below w.heap.size w w' := by
  have h1 : 1 ≤ n := by omega
  have hne : (70 : TypeId) ≠ 31 := by decide
  refine callsIn_of_wp_marks Try.func52 rfl h11 ?_ hro
  simp only [Try.ntmps52, List.size_toArray, List.length_cons, List.length_nil, Nat.reduceAdd, Nat.reduceSub, Array.replicate_succ, Array.replicate_zero, List.push_toArray, List.append_toArray, List.nil_append, List.cons_append]
  gi_wp2
  refine wpIn_rangeFunc ?_
  intro fn hfn
  rw [hro]
  obtain ⟨W0, hW0⟩ : ∃ W0, w.alloc (.cells #[.slice none 0 0] 70) = W0 := ⟨_, rfl⟩
  have hs0 : W0.heap.size = w.heap.size + 1 := by rw [← hW0]; simp
  have hv0 : W0.heap[w.heap.size]? = some (.cells #[.slice none 0 0] 70 (0, 0)) := by rw [← hW0]; exact World.alloc_heap_new w _
  have hb0 : Below w.heap.size w W0 := by rw [← hW0]; exact (Below.refl _ w).alloc (Nat.le_refl _) _
  rw [hW0]
  obtain ⟨W1, hW1⟩ : ∃ W1, (W0.alloc (.deferred (some []))).alloc (.loop (kpRec fn (.func (.func g) #[] lb) w.heap.size W0.heap.size .ready none)) = W1 := ⟨_, rfl⟩
  have hold : ∀ k, k < W0.heap.size → W1.heap[k]? = W0.heap[k]? := fun k hk => by
    rw [← hW1]; exact (Below.heap_alloc _ _ k (by simp; omega)).trans (Below.heap_alloc _ _ k hk)
  have hb1 : Below w.heap.size w W1 := by rw [← hW1]; exact (hb0.alloc hb0.size _).alloc (by have := hb0.size; simp; omega) _
  have hs1 : W1.heap.size = W0.heap.size + 2 := by rw [← hW1]; simp
  have hM : KpAt w fn (.func (.func g) #[] lb) w.heap.size (W0.heap.size + 1) W0.heap.size [] W1 :=
    ⟨⟨_, (hold w.heap.size (by omega)).trans hv0, ⟨rfl, .inl ⟨rfl, rfl⟩⟩⟩,
     by rw [← hW1]; have := World.alloc_heap_new (W0.alloc (.deferred (some []))) (.loop (kpRec fn (.func (.func g) #[] lb) w.heap.size W0.heap.size .ready none)); rwa [World.size_alloc] at this,
     by rw [← hW1]; exact (Below.heap_alloc _ _ _ (by simp)).trans (World.alloc_heap_new W0 _), hb1⟩
  refine ⟨W0.heap.size + 1, [{ target := .collected W0.heap.size, args := #[] }], W1, { target := .fn (.func g) lb, args := #[.func (.yield (W0.heap.size + 1)) #[] #[]] }, W1, g,
    #[.func (.yield (W0.heap.size + 1)) #[] #[]] ++ lb, W1, ?_, ?_, ?_, ?_, fun _ => h1, ?_⟩
  · rw [← hW1]; exact run_enterLoop_outer _ _ _ _ _
  · simp [resolve, go_sem]
  · intro f' hf'; simp [Target.leads] at hf'; subst hf'; exact hFg
  · simp [invoke, go_sem, eg]
  · refine (hseq (W0.heap.size + 1) (KpAt w fn (.func (.func g) #[] lb) w.heap.size (W0.heap.size + 1) W0.heap.size) W1 hb1 (kp_abides _ _ _ _ _ _ _ hb1.size)
      (fun pre x W hJ hl => kpYield F (n - 1 - 1) w fn hfn _ w.heap.size (W0.heap.size + 1) W0.heap.size (by omega) (by omega) (by omega) (Nat.le_refl _) (by omega) N hN pre x W hJ hl) hM).mono ?_
    rintro e W2 ⟨⟨v0, rfl⟩, ss, hS, h2⟩
    obtain ⟨v, hv, hrow⟩ := h2.box
    have hend := run_endLoop (P := Try.prog) h2.L (by simp [kpRec])
    obtain ⟨W3, hW3⟩ : ∃ W3, W2.putObj (W0.heap.size + 1) (.loop { kpRec fn (.func (.func g) #[] lb) w.heap.size W0.heap.size .ready none with state := .exhausted }) = W3 := ⟨_, rfl⟩
    rw [hW3] at hend
    have hg3 : W2.grownBy W3 (some (W0.heap.size + 1)) := by rw [← hW3]; exact grownBy_putObj_a _ _ _
    have hv3 : W3.heap[w.heap.size]? = some (.cells #[v] 70 (0, 0)) := by rw [← hW3]; exact (World.putObj_heap_other (by omega)).trans hv
    have hK3 : W3.heap[W0.heap.size]? = some (.deferred (some [])) := by rw [← hW3]; exact (World.putObj_heap_other (by omega)).trans h2.K
    have hrow3 := hrow.kept hg3 (ownsRow_ne_a hrow h2.L (fun cur e => by first | cases e | exact hne (Obj.cells.inj e).2.1))
    have hb3 : Below w.heap.size w W3 := h2.below.grown hg3 h2.below.size (fun k e => by cases e; omega)
    obtain ⟨hc3, hf3⟩ := cell_of_box_a hv3
    clear hW3
    refine ⟨none, W3, hend, ?_⟩
    gi_wp2
    rw [← hs0]
    refine ⟨by simp, .inl ⟨_, _, rfl, run_takeDeferred hK3, ?_⟩⟩
    exact ⟨_, results_tmp rfl _ _ _, v, ss, rfl, hS, hrow3.kept (grownBy_putObj_a _ _ _) (ownsRow_ne_a hrow3 hK3 (fun cur e => by first | cases e | exact hne (Obj.cells.inj e).2.1)), hb3.grown (grownBy_putObj_a _ _ _) hb3.size (fun k e => by cases e; omega)⟩
set_option maxHeartbeats 1000000 in
/-- slices.Collect(seq), against whatever iterator. -/
theorem collectK (F : Fence) (n : Nat) (h8 : F.fn 44) (h11 : F.fn 52) (hro : F.round = none) (hn : 3 ≤ n) (g : Nat) (lb : Array Value) (hFg : F.fn g) (eg : ∀ args w, (callFunc g args).run Try.prog w = .ok (.enter g args) w)
    (S : List Key → Prop) (N : Nat) (hN : N ≤ 1000000) (w : World) (hseq : SeqGives F (n - 1 - 1) Try.prog g lb Key.val S N w) :
    CallsIn F n Try.prog 44 #[.func (.func g) #[] lb] w fun e w' => ∃ (v : Value) (ss : List Key), e = .returned v ∧ S ss ∧ w'.ownsRow w.heap.size 31 3 v ss.length (ss.flatMap Key.cells) ∧ Below w.heap.size w w' := by
  have h1 : 1 ≤ n := by omega
  have e11 : ∀ args w, (callFunc 52 args).run Try.prog w = .ok (.enter 52 args) w := enters_of Try.func52 (by kernel_rfl) rfl
  refine callsIn_of_wp Try.func44 rfl h8 ?_ hro
  simp only [Try.ntmps44, List.size_toArray, List.length_cons, List.length_nil, Nat.reduceAdd, Nat.reduceSub, Array.replicate_succ, Array.replicate_zero, List.push_toArray, List.append_toArray, List.nil_append, List.cons_append]
  gi_wp2_with (gi_at_fn 52; refine (appendSeqK F (n - 1) h11 hro (by omega) g lb hFg eg S N hN _ hseq).mono ?_; rintro e w' ⟨v, ss, rfl, hS, hrow, hb⟩)
  go_ret
  exact ⟨v, ss, rfl, hS, hrow, hb⟩

end Go.Proofs.Ytimbhkbdmcbodaa
