/-
  slices.AppendSeq, slices.Collect at numbers, against whatever iterator (as CollK, at elements of one cell).
-/
import Derived.Test.YtfpfpeachmcfeaaDoorVdE
import Derived.Deep.WholeRow
import Derived.Deep.MidRow
import Derived.Great.BuildSlice
import Derived.Shelf.SlIter.Collect
import Derived.Lib.Hide
import Derived.Shelf.Abstract
import Derived.Shelf.RegionOpen
import Derived.OwnWalkIn
import Derived.TacticsInMore
import Derived.LoopNIn
import Derived.LoopIn
namespace Go.Proofs.YtfpfpeachmcfeaaDoor
open Go.RowKit Go.Shelf
set_option linter.unusedVariables false
attribute [local go_sem] Oper.semAt_some

/-- As the library's SeqGives, of a consumer that leaves what was there: so that what the iterator reads stays. -/
def SeqGivesW {α : Type} (F : Fence) (n : Nat) (P : Program) (g : Nat) (lb : Array Value) (enc : α → Value) (S : List α → Prop) (N : Nat) (w : World) : Prop :=
  ∀ (l : Nat) (J : List α → World → Prop) (W : World), Below w.heap.size w W → AbidesFrom W.heap.size J → (∀ ss W', J ss W' → Below w.heap.size w W') →
    (∀ pre x W1, J pre W1 → pre.length < N → YieldAt F (n - 1) P l #[enc x] W1 fun e W' => e = .returned (.bool true) ∧ J (pre ++ [x]) W' ∧ KeepsWalks W1 W') →
    J [] W →
    CallsIn F n P g (#[.func (.yield l) #[] #[]] ++ lb) W fun e W' => (∃ v, e = .returned v) ∧ ∃ xs, S xs ∧ J xs W'
abbrev numV (n : Nat) : Value := .int .u32 (n : Int)
/-! ### AppendSeq -/
def npAssign : Code := (Code.region 2 #[{ dst := some 5, op := Op.assign (Operand.tmp 7), type := 22, pos := "iter.go:51", after := #[], guard := none }] false)
def npBody : Code := (Code.block 1 (Code.region 3 #[{ dst := some 8, op := Op.load 26 (Operand.tmp 2), type := 26, pos := "iter.go:52", after := #[], guard := none }, { dst := some 9, op := Op.move (Operand.tmp 5), type := 22, pos := "iter.go:52", after := #[], guard := none }, { dst := some 10, op := Op.buildSlice 26 1 #[(0, Operand.tmp 9)], type := 26, pos := "iter.go:52", after := #[{ on := 1, ground := Ground.data }], guard := none }, { dst := some 11, op := Op.call { callee := Callee.builtin Builtin.append, args := #[Operand.tmp 8, Operand.tmp 10], argTypes := #[26, 26] }, type := 26, pos := "iter.go:52", after := #[{ on := 0, ground := Ground.data }, { on := 2, ground := Ground.data }], guard := none }, { dst := none, op := Op.store 26 (Operand.tmp 2) (Operand.tmp 11), type := 0, pos := "iter.go:52", after := #[{ on := 3, ground := Ground.data }, { on := 3, ground := Ground.chain }, { on := 0, ground := Ground.phase }, { on := 1, ground := Ground.phase }, { on := 2, ground := Ground.phase }, { on := 3, ground := Ground.phase }], guard := none }] false))
/-- The loop's record. -/
def npRec (fn : FuncId) (sv : Value) (Bs D : Nat) (st : LoopState) (pend : Option Code) : Loop :=
  { state := st, pending := pend, fn, tmps := #[.slice none 0 0, sv, .pointer (some ⟨Bs, 0, none⟩), undef, .slice none 0 0, undef, sv, undef, undef, undef, undef, undef, undef], params := #[7], assign := npAssign, body := npBody, defers := D }
/-- Between two rounds. -/
structure NpAt (w0 : World) (fn : FuncId) (sv : Value) (Bs l D : Nat) (ss : List Nat) (W : World) : Prop where
  box : ∃ v, W.heap[Bs]? = some (.cells #[v] 26 (0, 0)) ∧ W.ownsRow w0.heap.size 22 1 v ss.length (numCells ss)
  L : W.heap[l]? = some (.loop (npRec fn sv Bs D .ready none))
  K : W.heap[D]? = some (.deferred (some []))
  below : Below w0.heap.size w0 W
theorem np_abides (w0 : World) (fn : FuncId) (sv : Value) (Bs l D B : Nat) (hB : w0.heap.size ≤ B) : AbidesFrom B (NpAt w0 fn sv Bs l D) := fun s W W' row h hg hrow => by
  have hrow' : ∀ r, row = some r → ∃ o : Obj, W.heap[r]? = some o ∧ o.isWalk = true := fun r e => (hrow r e).2
  obtain ⟨v, hv, hr⟩ := h.box
  exact ⟨⟨v, (grownBy_keeps hg hrow' hv rfl).trans hv, ownsRow_abides_a hr hg hrow'⟩, (grownBy_keeps hg hrow' h.L rfl).trans h.L, (grownBy_keeps hg hrow' h.K rfl).trans h.K,
    h.below.grown hg h.below.size (fun k e => Nat.le_trans hB (hrow k e).1)⟩

set_option maxRecDepth 100000 in
set_option maxHeartbeats 2000000 in
theorem npYield (F : Fence) (m : Nat) (w0 : World) (fn : FuncId) (hfn : F.fn fn) (sv : Value) (Bs l D : Nat) (hBl : Bs ≠ l) (hDl : D ≠ l) (hDB : D ≠ Bs) (h0B : w0.heap.size ≤ Bs) (h0l : w0.heap.size ≤ l)
    (N : Nat) (hN : N ≤ 1000000) (ss : List Nat) (x : Nat) (W : World) (h : NpAt w0 fn sv Bs l D ss W) (hlen : ss.length < N) :
    YieldAt F m Tryd.prog l #[numV x] W fun e W' => e = .returned (.bool true) ∧ NpAt w0 fn sv Bs l D (ss ++ [x]) W' ∧ KeepsWalks W W' := by
  have hne : (26 : TypeId) ≠ 22 := by decide
  obtain ⟨i0, hi, hz0, hz1, hz2⟩ := info_parts infoU32
  obtain ⟨v, hv, hrow⟩ := h.box
  refine ⟨fn, #[.slice none 0 0, sv, .pointer (some ⟨Bs, 0, none⟩), undef, .slice none 0 0, undef, sv, numV x, undef, undef, undef, undef, undef], npAssign, npBody, by simpa [npRec] using run_yield (P := Tryd.prog) (args := #[numV x]) h.L rfl, roundIn_of_wpIn hfn ?_⟩
  have hv1 := hv
  have hL1 := h.L
  have hK1 := h.K
  have hrow1 := hrow
  have hb1 := h.below
  have hk1 : KeepsWalks W W := KeepsWalks.refl _
  -- the round begins
  have hl : l < W.heap.size := (Array.getElem?_eq_some_iff.1 hL1).1
  have hbr := run_beginRound (P := Tryd.prog) hL1 rfl
  obtain ⟨W3, hW3⟩ : ∃ W3, W.putObj l (.loop { npRec fn sv Bs D .ready none with state := .busy }) = W3 := ⟨_, rfl⟩
  rw [hW3] at hbr
  have hg3 : W.grownBy W3 (some l) := by rw [← hW3]; exact grownBy_putObj_a _ _ _
  have hk3 : KeepsWalks W W3 := hk1.trans (by rw [← hW3]; exact KeepsWalks.putObj _ hL1 rfl)
  have hv3 : W3.heap[Bs]? = some (.cells #[v] 26 (0, 0)) := by rw [← hW3]; exact (World.putObj_heap_other hBl).trans hv1
  have hK3 : W3.heap[D]? = some (.deferred (some [])) := by rw [← hW3]; exact (World.putObj_heap_other hDl).trans hK1
  have hL3 : W3.heap[l]? = some (.loop { npRec fn sv Bs D .ready none with state := .busy }) := by rw [← hW3]; exact World.putObj_heap_same hl
  have hrow3 : W3.ownsRow w0.heap.size 22 1 v ss.length (numCells ss) := hrow1.kept hg3 (ownsRow_ne_a hrow1 hL1 (fun cur e => by first | cases e | exact hne (Obj.cells.inj e).2.1))
  have hb3 : Below w0.heap.size w0 W3 := hb1.grown hg3 hb1.size (fun k e => by cases e; exact h0l)
  obtain ⟨hc3, hf3⟩ := cell_of_box_a hv3
  have hBlt : Bs < W3.heap.size := (Array.getElem?_eq_some_iff.1 hv3).1
  have hl3 : l < W3.heap.size := (Array.getElem?_eq_some_iff.1 hL3).1
  have hDlt : D < W3.heap.size := (Array.getElem?_eq_some_iff.1 hK3).1
  have ne_of : ∀ {j : Nat} {o : Obj}, W3.heap[j]? = some o → (∀ cur, o ≠ .cells cur 22 (0, 0)) → some j ≠ v.ownBlock := fun hj hno => by
    rcases ownsRow_ne_a hrow3 hj hno with e | e
    · rw [e]; simp
    · exact fun e' => e e'.symm
  clear hg3 hv1 hK1 hrow1 hb1 hk1 hW3
  unfold npAssign
  gi_wp2_with fail
  unfold npBody
  gi_wp2_with (first
    | (gi_at_builtin; refine wpListIn_append_own _ rfl _ _ 26 rfl w0.heap.size 22 i0 (.int .u32 0) 1 4 Tryd.underlying26 hi hz0 hz1 hz2 rfl (by decide) _ _ _ rfl (hrow3.alloc _) ⟨W3.heap.size, 0, none⟩ 1 1 [numV x] rfl rfl (fun j u hj => by rw [Addr.add_lit, Nat.zero_add]; exact (blk_cell (at10 W3 _) j).trans (by simpa using hj)) (fun u hu => by rw [List.mem_singleton.1 hu]; rfl) (by unfold maxLen; omega) (by omega) (by have := hb3.size; simp; omega) ?_; intro v' w4 hown' hg4 hnil4
       have hv4 : w4.heap[Bs]? = some (.cells #[v] 26 (0, 0)) := (hg4.block Bs (by simp; omega) (ne_of hv3 (fun cur e => by first | cases e | exact hne (Obj.cells.inj e).2.1))).trans ((Below.heap_alloc _ _ Bs hBlt).trans hv3)
       obtain ⟨hc4, hf4⟩ := cell_of_box_a hv4
       obtain ⟨g', cap', cur', rfl, hbase', hgb', hr1, hr2, hr3, hr4⟩ : ∃ g' cap' cur', v' = .slice (some ⟨g', 0, none⟩) (ss.length + 1) cap' ∧ w0.heap.size ≤ g' ∧ w4.heap[g']? = some (.cells cur' 22 (0, 0)) ∧ ss.length + 1 ≤ cap' ∧ cap' ≤ maxLen ∧ cur'.size = cap' * 1 ∧ cur'.toList.take ((ss.length + 1) * 1) = numCells ss ++ [numV x] := by
         rcases hown'.2 with ⟨_, h0⟩ | h'
         · exact absurd h0 (by omega)
         · exact h')
    | fail)
  have hg4' : (W3.alloc (.cells #[numV x] 22)).grownBy w4 v.ownBlock := hg4
  have hL4 : w4.heap[l]? = some (.loop { npRec fn sv Bs D .ready none with state := .busy }) := (hg4'.block l (by simp; omega) (ne_of hL3 (fun cur e => by first | cases e | exact hne (Obj.cells.inj e).2.1))).trans ((Below.heap_alloc _ _ l hl3).trans hL3)
  have hK4 : w4.heap[D]? = some (.deferred (some [])) := (hg4'.block D (by simp; omega) (ne_of hK3 (fun cur e => by first | cases e | exact hne (Obj.cells.inj e).2.1))).trans ((Below.heap_alloc _ _ D hDlt).trans hK3)
  obtain ⟨w5, hw5⟩ : ∃ w5, w4.setCell ⟨Bs, 0, none⟩ (.slice (some ⟨g', 0, none⟩) (ss.length + 1) cap') = w5 := ⟨_, rfl⟩
  rw [hw5]
  have hg5 : w4.grownBy w5 (some Bs) := by rw [← hw5]; exact grownBy_setCell0_a _ _ _
  have hv5 : w5.heap[Bs]? = some (.cells #[.slice (some ⟨g', 0, none⟩) (ss.length + 1) cap'] 26 (0, 0)) := by rw [← hw5]; exact heap_setCell_box_a _ hv4
  have hL5 : w5.heap[l]? = some (.loop { npRec fn sv Bs D .ready none with state := .busy }) := (hg5.block l (Array.getElem?_eq_some_iff.1 hL4).1 (fun e => hBl (by cases e; rfl))).trans hL4
  have hK5 : w5.heap[D]? = some (.deferred (some [])) := (hg5.block D (Array.getElem?_eq_some_iff.1 hK4).1 (fun e => hDB (by cases e; rfl))).trans hK4
  have hrow5 := hown'.kept hg5 (ownsRow_ne_a hown' hv4 (fun cur e => by first | cases e | exact hne (Obj.cells.inj e).2.1))
  have hl5 : l < w5.heap.size := (Array.getElem?_eq_some_iff.1 hL5).1
  have hb4 : Below w0.heap.size w0 w4 := (hb3.alloc hb3.size _).grown hg4' (by have := hb3.size; simp; omega) (fun k e => (hrow3.lt k e).1)
  have hb5 : Below w0.heap.size w0 w5 := hb4.grown hg5 hb4.size (fun k e => by cases e; exact h0B)
  have hk5 : KeepsWalks W w5 := ((hk3.trans (KeepsWalks.alloc _ _)).trans (KeepsWalks.of_grownBy hg4' (ownsRow_not_walk_a (hrow3.alloc _)))).trans (by rw [← hw5]; exact KeepsWalks.setCell _ _ _)
  clear hw5
  refine ⟨_, _, run_endRound none hL5, rfl, ⟨⟨_, (World.putObj_heap_other hBl).trans hv5, ?_⟩, World.putObj_heap_same hl5, (World.putObj_heap_other hDl).trans hK5, hb5.grown (grownBy_putObj_a _ _ _) hb5.size (fun k e => by cases e; exact h0l)⟩, hk5.trans (KeepsWalks.putObj _ hL5 rfl)⟩
  have := hrow5.kept (grownBy_putObj_a w5 l (.loop { { npRec fn sv Bs D .ready none with state := .busy } with state := if (none : Option Code).isNone then .ready else .done, pending := none })) (ownsRow_ne_a hrow5 hL5 (fun cur e => by first | cases e | exact hne (Obj.cells.inj e).2.1))
  rw [numCells_snoc, List.length_append]
  simpa using this

set_option maxRecDepth 100000 in
set_option maxHeartbeats 2000000 in
/-- slices.AppendSeq(nil, seq), against whatever iterator. -/
theorem appendSeqN (F : Fence) (n : Nat) (h11 : F.fn 67) (hro : F.round = none) (hn : 2 ≤ n) (g : Nat) (lb : Array Value) (hFg : F.fn g) (eg : ∀ args w, (callFunc g args).run Tryd.prog w = .ok (.enter g args) w)
    (S : List Nat → Prop) (N : Nat) (hN : N ≤ 1000000) (w : World) (hseq : SeqGivesW F (n - 1) Tryd.prog g lb numV S N w) :
    CallsIn F n Tryd.prog 67 #[.slice none 0 0, .func (.func g) #[] lb] w fun e w' => ∃ (v : Value) (ss : List Nat), e = .returned v ∧ S ss ∧ w'.ownsRow w.heap.size 22 1 v ss.length (numCells ss) ∧ Below w.heap.size w w' := by
  have h1 : 1 ≤ n := by omega
  have hne : (26 : TypeId) ≠ 22 := by decide
  refine callsIn_of_wp_marks Tryd.func67 rfl h11 ?_ hro
  simp only [Tryd.ntmps67, List.size_toArray, List.length_cons, List.length_nil, Nat.reduceAdd, Nat.reduceSub, Array.replicate_succ, Array.replicate_zero, List.push_toArray, List.append_toArray, List.nil_append, List.cons_append]
  gi_wp2
  refine wpIn_rangeFunc ?_
  intro fn hfn
  rw [hro]
  obtain ⟨W0, hW0⟩ : ∃ W0, w.alloc (.cells #[.slice none 0 0] 26) = W0 := ⟨_, rfl⟩
  have hs0 : W0.heap.size = w.heap.size + 1 := by rw [← hW0]; simp
  have hv0 : W0.heap[w.heap.size]? = some (.cells #[.slice none 0 0] 26 (0, 0)) := by rw [← hW0]; exact World.alloc_heap_new w _
  have hb0 : Below w.heap.size w W0 := by rw [← hW0]; exact (Below.refl _ w).alloc (Nat.le_refl _) _
  rw [hW0]
  obtain ⟨W1, hW1⟩ : ∃ W1, (W0.alloc (.deferred (some []))).alloc (.loop (npRec fn (.func (.func g) #[] lb) w.heap.size W0.heap.size .ready none)) = W1 := ⟨_, rfl⟩
  have hold : ∀ k, k < W0.heap.size → W1.heap[k]? = W0.heap[k]? := fun k hk => by
    rw [← hW1]; exact (Below.heap_alloc _ _ k (by simp; omega)).trans (Below.heap_alloc _ _ k hk)
  have hb1 : Below w.heap.size w W1 := by rw [← hW1]; exact (hb0.alloc hb0.size _).alloc (by have := hb0.size; simp; omega) _
  have hs1 : W1.heap.size = W0.heap.size + 2 := by rw [← hW1]; simp
  have hM : NpAt w fn (.func (.func g) #[] lb) w.heap.size (W0.heap.size + 1) W0.heap.size [] W1 :=
    ⟨⟨_, (hold w.heap.size (by omega)).trans hv0, ⟨rfl, .inl ⟨rfl, rfl⟩⟩⟩,
     by rw [← hW1]; have := World.alloc_heap_new (W0.alloc (.deferred (some []))) (.loop (npRec fn (.func (.func g) #[] lb) w.heap.size W0.heap.size .ready none)); rwa [World.size_alloc] at this,
     by rw [← hW1]; exact (Below.heap_alloc _ _ _ (by simp)).trans (World.alloc_heap_new W0 _), hb1⟩
  refine ⟨W0.heap.size + 1, [{ target := .collected W0.heap.size, args := #[] }], W1, { target := .fn (.func g) lb, args := #[.func (.yield (W0.heap.size + 1)) #[] #[]] }, W1, g,
    #[.func (.yield (W0.heap.size + 1)) #[] #[]] ++ lb, W1, ?_, ?_, ?_, ?_, fun _ => h1, ?_⟩
  · rw [← hW1]; exact run_enterLoop_outer _ _ _ _ _
  · simp [resolve, go_sem]
  · intro f' hf'; simp [Target.leads] at hf'; subst hf'; exact hFg
  · simp [invoke, go_sem, eg]
  · refine (hseq (W0.heap.size + 1) (NpAt w fn (.func (.func g) #[] lb) w.heap.size (W0.heap.size + 1) W0.heap.size) W1 hb1 (np_abides _ _ _ _ _ _ _ hb1.size) (fun ss W' h => h.below)
      (fun pre x W hJ hl => npYield F (n - 1 - 1) w fn hfn _ w.heap.size (W0.heap.size + 1) W0.heap.size (by omega) (by omega) (by omega) (Nat.le_refl _) (by omega) N hN pre x W hJ hl) hM).mono ?_
    rintro e W2 ⟨⟨v0, rfl⟩, ss, hS, h2⟩
    obtain ⟨v, hv, hrow⟩ := h2.box
    have hend := run_endLoop (P := Tryd.prog) h2.L (by simp [npRec])
    obtain ⟨W3, hW3⟩ : ∃ W3, W2.putObj (W0.heap.size + 1) (.loop { npRec fn (.func (.func g) #[] lb) w.heap.size W0.heap.size .ready none with state := .exhausted }) = W3 := ⟨_, rfl⟩
    rw [hW3] at hend
    have hg3 : W2.grownBy W3 (some (W0.heap.size + 1)) := by rw [← hW3]; exact grownBy_putObj_a _ _ _
    have hv3 : W3.heap[w.heap.size]? = some (.cells #[v] 26 (0, 0)) := by rw [← hW3]; exact (World.putObj_heap_other (by omega)).trans hv
    have hK3 : W3.heap[W0.heap.size]? = some (.deferred (some [])) := by rw [← hW3]; exact (World.putObj_heap_other (by omega)).trans h2.K
    have hrow3 := hrow.kept hg3 (ownsRow_ne_a hrow h2.L (fun cur e => by first | cases e | exact hne (Obj.cells.inj e).2.1))
    have hb3 : Below w.heap.size w W3 := h2.below.grown hg3 h2.below.size (fun k e => by cases e; omega)
    obtain ⟨hc3, hf3⟩ := cell_of_box_a hv3
    clear hW3
    refine ⟨none, W3, hend, ?_⟩
    gi_wp2
    rw [← hs0]
    refine ⟨by simp, .inl ⟨_, _, rfl, run_takeDeferred hK3, ?_⟩⟩
    exact ⟨_, results_tmp rfl _ _ _, v, ss, rfl, hS, hrow3.kept (grownBy_putObj_a _ _ _) (ownsRow_ne_a hrow3 hK3 (fun cur e => by first | cases e | exact hne (Obj.cells.inj e).2.1)), hb3.grown (grownBy_putObj_a _ _ _) hb3.size (fun k e => by cases e; omega)⟩
set_option maxHeartbeats 1000000 in
/-- slices.Collect(seq), against whatever iterator. -/
theorem collectN (F : Fence) (n : Nat) (h8 : F.fn 62) (h11 : F.fn 67) (hro : F.round = none) (hn : 3 ≤ n) (g : Nat) (lb : Array Value) (hFg : F.fn g) (eg : ∀ args w, (callFunc g args).run Tryd.prog w = .ok (.enter g args) w)
    (S : List Nat → Prop) (N : Nat) (hN : N ≤ 1000000) (w : World) (hseq : SeqGivesW F (n - 1 - 1) Tryd.prog g lb numV S N w) :
    CallsIn F n Tryd.prog 62 #[.func (.func g) #[] lb] w fun e w' => ∃ (v : Value) (ss : List Nat), e = .returned v ∧ S ss ∧ w'.ownsRow w.heap.size 22 1 v ss.length (numCells ss) ∧ Below w.heap.size w w' := by
  have h1 : 1 ≤ n := by omega
  have e11 : ∀ args w, (callFunc 67 args).run Tryd.prog w = .ok (.enter 67 args) w := enters_of Tryd.func67 (by kernel_rfl) rfl
  refine callsIn_of_wp Tryd.func62 rfl h8 ?_ hro
  simp only [Tryd.ntmps62, List.size_toArray, List.length_cons, List.length_nil, Nat.reduceAdd, Nat.reduceSub, Array.replicate_succ, Array.replicate_zero, List.push_toArray, List.append_toArray, List.nil_append, List.cons_append]
  gi_wp2_with (gi_at_fn 67; refine (appendSeqN F (n - 1) h11 hro (by omega) g lb hFg eg S N hN _ hseq).mono ?_; rintro e w' ⟨v, ss, rfl, hS, hrow, hb⟩)
  go_ret
  exact ⟨v, ss, rfl, hS, hrow, hb⟩

/-! ### Values -/
set_option maxRecDepth 100000 in
set_option maxHeartbeats 1000000 in
theorem values_gives (F : Fence) (n : Nat) (h10 : F.fn 64) (hro : F.round = none) (hn : 1 ≤ n) (Bm : Nat) (A : Option Addr) (c : Nat) (L : List Nat) (w : World) (hBm : Bm < w.heap.size)
    (hm : w.cell? ⟨Bm, 0, none⟩ = some (.slice A L.length c)) (hx : RowAt (fun b => b < w.heap.size) w A (numCells L)) (hL : L.length ≤ 1000000) :
    SeqGivesW F n Tryd.prog 64 #[.pointer (some ⟨Bm, 0, none⟩)] numV (fun ss => ss = L) L.length w := fun l J W hW hJ hJB hY h0 => by
  have hm' := (hW.cell (p := ⟨Bm, 0, none⟩) hBm).trans hm
  obtain ⟨m, hmL⟩ : ∃ m, m = L.length := ⟨_, rfl⟩
  rw [← hmL] at hm' hL hY
  have H := Lib.hid (And.intro hx (And.intro hmL (And.intro hJB (And.intro hY h0))))
  clear hx hmL hJB hY h0 hm
  show CallsIn F n Tryd.prog 64 #[.func (.yield l) #[] #[], .pointer (some ⟨Bm, 0, none⟩)] W _
  refine callsIn_of_wp Tryd.func64 rfl h10 ?_ hro
  simp only [Tryd.ntmps64, List.size_toArray, List.length_cons, List.length_nil, Nat.reduceAdd, Nat.reduceSub, Array.replicate_succ, Array.replicate_zero, List.push_toArray, List.append_toArray, List.nil_append, List.cons_append]
  gi_wp2
  gi_loopw [7] (fun i wr => ∃ k : Nat, i = .int .i64 k ∧ k ≤ m ∧ J (L.take k) wr) (fun i _ => m - (intOf i).toNat)
  case atStart => exact ⟨0, rfl, by omega, H.out.2.2.2.2⟩
  case round =>
    obtain ⟨k, rfl, hk, hJk⟩ := hrel
    have HJ := Lib.hid hJk
    clear hJk
    by_cases hkm : k < m
    · obtain ⟨y, hy⟩ : ∃ y, L[k]? = some y := ⟨_, List.getElem?_eq_getElem (by have := H.out.2.1; omega)⟩
      have hb := H.out.2.2.1 _ _ HJ.out
      obtain ⟨b, o, rfl, _, _, hc⟩ := num_at (H.out.1.keeps (fun b o hs ho => (hb.block b hs).trans ho)) hy
      have hR := H.out.2.2.2.1 (L.take k) y wr HJ.out (by rw [List.length_take]; omega)
      obtain ⟨fn, tmps, assign, body, hyl, hRR⟩ := hR
      have p1 : (0:Int) ≤ k := by omega
      have p2 : (k:Int) < m := by omega
      have HY := Lib.hid hy
      clear hy
      gi_wp2_with fail
      refine hRR.mono ?_
      rintro e W3 ⟨rfl, hJ4, hk3⟩
      gi_wp2
      go_roundw
      case rel =>
        refine ⟨k + 1, by go_num, by omega, ?_⟩
        obtain ⟨hlt, e⟩ := List.getElem?_eq_some_iff.1 HY.out
        rw [List.take_succ_eq_append_getElem hlt, e]
        exact hJ4
      case measure => simp [intOf]; omega
    · have hkm' : k = m := by omega
      subst hkm'
      gi_wp2
      go_end0
      have h1 := HJ.out
      rw [List.take_of_length_le (by have := H.out.2.1; omega)] at h1
      exact ⟨⟨_, rfl⟩, L, rfl, h1⟩
theorem valuesFn_ok {A : Option Addr} {n c : Nat} (w : World) : Calls Tryd.prog 57 #[.slice A n c] w fun e w' => e = .returned (.func (.func 64) #[] #[.pointer (some ⟨w.heap.size, 0, none⟩)]) ∧ w' = w.alloc (.cells #[.slice A n c] 26) := by
  go_enter Tryd.func57, Tryd.ntmps57
  go_wp2
  go_ret
  exact ⟨rfl, rfl⟩

end Go.Proofs.YtfpfpeachmcfeaaDoor
