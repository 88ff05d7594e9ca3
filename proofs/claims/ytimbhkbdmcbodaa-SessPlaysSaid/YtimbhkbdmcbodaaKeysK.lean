/-
  maps.Keys over a map whose keys are sessions' keys: an iterator that gives each key once.
-/
import Derived.Test.YtimbhkbdmcbodaaCollK
import Derived.Test.YtimbhkbdmcbodaaGIter
import Derived.Sort.MapsRangeIn
namespace Go.Proofs.Ytimbhkbdmcbodaa
open Go.RowKit Go.MapKept Go.Shelf
set_option linter.unusedVariables false

theorem Mod.grownBy {w w' : World} {r : Nat} (h : Mod (fun j => j = r) w w') : w.grownBy w' (some r) := ⟨h.os, h.tape, h.output, h.size, fun k hk hn => h.block k hk (fun e => hn (by rw [e]))⟩
theorem Mod.grownNo {w w' : World} (h : Mod (fun _ => False) w w') : w.grownBy w' none := ⟨h.os, h.tape, h.output, h.size, fun k hk _ => h.block k hk id⟩
section
variable {P : Program} {k : TypeId} {w w' : World} {b r : Nat} {D vis : List (Value × Value)}
theorem GIter.of_walks (h : GIter P k w b r D vis) (hk : KeepsWalks w w') : GIter P k w' b r D vis := by
  obtain ⟨es, cl, since, seen, c0, E, h1, h2, h3, h4, h5, rest⟩ := h
  exact ⟨es, cl, since, seen, c0, E, hk.same b _ h1 rfl, h2, h3, h4, hk.same r _ h5 rfl, rest⟩
/-- What is left of a range: so many. -/
def gLeft (b r : Nat) (w : World) : Nat :=
  match w.heap[b]?, w.heap[r]? with
  | some (.map es _), some (.mapIter _ _ seen _) => es.size - seen.size
  | _, _ => 0
theorem GIter.left (h : GIter P k w b r D vis) : gLeft b r w = D.length - vis.length := by
  obtain ⟨es, cl, since, seen, c0, E, h1, h2, h3, rfl, h5, _, _, _, h6, _, _, rfl⟩ := h
  unfold gLeft
  rw [h1, h5]
  have := congrArg List.length h6
  simp at this ⊢
  omega
theorem GIter.iter_walk (h : GIter P k w b r D vis) : ∃ o : Obj, w.heap[r]? = some o ∧ o.isWalk = true := by
  obtain ⟨es, cl, since, seen, c0, E, h1, h2, h3, h4, h5, rest⟩ := h
  exact ⟨_, h5, rfl⟩
end
section
variable {F : Fence} {n : Nat} {P : Program} (w : World) {ops : Array Oper} {rest : List Oper} {o : Oper} {a : Act} {Q : Exit → Act → World → Prop}
theorem wpListIn_range_g (hg : o.guard = none) (m : Operand) (t : TypeId) (hop : o.op = Op.range t m) (k e : TypeId) (ht : P.underlying t = some (.map k e)) (b : Nat) (D : List (Value × Value))
    (hm : a.eval m = .map (some b)) (hown : GMap P k w b D)
    (hK : ∀ w', GIter P k w' b w.heap.size D [] → w.grownBy w' none → wpListIn F n P ops Q rest (a.put o.dst (.pointer (some ⟨w.heap.size, 0, none⟩))) w') :
    wpListIn F n P ops Q (o :: rest) a w := by
  refine wpListIn_plain hg fun K' hK' => ?_
  obtain ⟨w', hrun, r1, r2⟩ := GIter.start hown ht
  unfold Oper.wpIn
  refine ⟨?_, ?_⟩
  · simp [Oper.about, hop]
  · rw [Oper.semAt_plain F _ _ (by rw [hop]; intro c hc'; cases hc')]
    simp [execOp, hop, hm, hrun, Result.andThen]
    exact hK' _ _ (hK w' r1 r2.grownNo)
theorem wpListIn_next_g (hg : o.guard = none) (it : Operand) (hop : o.op = Op.next it false) (k : TypeId) (b r : Nat) (D vis : List (Value × Value))
    (hit : a.eval it = .pointer (some ⟨r, 0, none⟩)) (h : GIter P k w b r D vis)
    (hDone : vis.Perm D → wpListIn F n P ops Q rest (a.put o.dst (.tuple #[.bool false])) w)
    (hMore : ∀ (x v : Value) (w' : World), (x, v) ∈ D → GIter P k w' b r D (vis ++ [(x, v)]) → vis.length < D.length →
      w.grownBy w' (some r) → w'.heap.size = w.heap.size → (Instr.entry (.pointer (some ⟨r, 0, none⟩))).run P w' = .ok (.tuple #[x, v]) w' → wpListIn F n P ops Q rest (a.put o.dst (.tuple #[.bool true, x, v])) w') :
    wpListIn F n P ops Q (o :: rest) a w := by
  refine wpListIn_plain hg fun K' hK' => ?_
  unfold Oper.wpIn
  refine ⟨by simp [Oper.about, hop], ?_⟩
  rw [Oper.semAt_plain F _ _ (by rw [hop]; intro c hc'; cases hc')]
  rcases h.step o.type with ⟨h0, hrun⟩ | ⟨x, v, w', hmem, hnot, hrun, hrg, hlt, hgr, hsz, hen⟩
  · simp [execOp, hop, hit, hrun, Result.andThen]
    exact hK' _ _ (hDone h0)
  · simp [execOp, hop, hit, hrun, Result.andThen]
    exact hK' _ _ (hMore x v w' hmem hrg hlt hgr.grownBy hsz hen)
end
attribute [local go_sem ↓] ky_alloc_fold ky_store_fold ky_load_fold ky_slice_fold

set_option maxRecDepth 100000 in
set_option maxHeartbeats 1000000 in
/-- The iterator's body. -/
theorem keys1K_in (F : Fence) (n : Nat) (h10 : F.fn 46) (hro : F.round = none) (hn : 1 ≤ n) (l Bm b : Nat) (D : List (Value × Value)) (hD : ∀ p ∈ D, ∃ x : Key, p.1 = x.val) (J : List Key → World → Prop)
    (hY : ∀ pre x W, J pre W → pre.length < D.length → YieldAt F (n - 1) Try.prog l #[Key.val x] W fun e W' => e = .returned (.bool true) ∧ J (pre ++ [x]) W' ∧ KeepsWalks W W')
    (W : World) (hJ : AbidesFrom W.heap.size J) (hm : W.cell? ⟨Bm, 0, none⟩ = some (.map (some b))) (hown : GMap Try.prog 31 W b D) (h0 : J [] W) :
    CallsIn F n Try.prog 46 #[.func (.yield l) #[] #[], .pointer (some ⟨Bm, 0, none⟩)] W fun e W' => (∃ v, e = .returned v) ∧ ∃ ss : List Key, (ss.map Key.val).Perm (D.map (·.1)) ∧ J ss W' := by
  refine callsIn_of_wp Try.func46 rfl h10 ?_ hro
  simp only [Try.ntmps46, List.size_toArray, List.length_cons, List.length_nil, Nat.reduceAdd, Nat.reduceSub, Array.replicate_succ, Array.replicate_zero, List.push_toArray, List.append_toArray, List.nil_append, List.cons_append]
  gi_wp2_with (first
    | (gi_at_range; refine wpListIn_range_g _ rfl _ _ rfl 31 _ Try.underlying61 b D rfl hown ?_; intro w0 hrg0 hg0)
    | gi_in)
  go_frame
  gi_loopw [3] (fun _ wr => ∃ (vis : List (Value × Value)) (ss : List Key), GIter Try.prog 31 wr b W.heap.size D vis ∧ vis.map (·.1) = ss.map Key.val ∧ J ss wr)
    (fun _ wr => gLeft b W.heap.size wr)
  case atStart =>
    exact ⟨[], [], hrg0, rfl, hJ [] W w0 none h0 hg0 (fun r e => by cases e)⟩
  case round =>
    obtain ⟨vis, ss, hrg, hvs, hJs⟩ := hrel
    gi_wp2_with (first
      | (gi_at_next; refine wpListIn_next_g _ rfl _ rfl 31 b W.heap.size D vis rfl hrg ?_ ?_)
      | gi_in)
    · intro hp
      gi_wp2
      go_end0
      exact ⟨⟨_, rfl⟩, ss, hvs ▸ hp.map _, hJs⟩
    · intro x v w2 hmem hrg2 hlt hg2 hs2 hen
      obtain ⟨y, hy⟩ := hD _ hmem
      simp only at hy
      subst hy
      have hJ2 : J ss w2 := hJ ss wr w2 (some W.heap.size) hJs hg2 (fun r e => by cases e; exact ⟨Nat.le_refl _, hrg.iter_walk⟩)
      have hal := kyAlloc_run w2
      have hst := kyStore_new w2 y
      obtain ⟨W1, hW1⟩ : ∃ W1, W1 = w2.alloc (.cells y.cells.toArray 31) := ⟨_, rfl⟩
      have hg1 : w2.grownBy W1 none := by rw [hW1]; exact ((Mod.refl (fun _ => False) w2).alloc _).grownNo
      have hk1 : KeepsWalks w2 W1 := by rw [hW1]; exact KeepsWalks.alloc _ _
      have hx1 : W1.heap[w2.heap.size]? = some (.cells y.cells.toArray 31 (0, 0)) := by rw [hW1]; exact at10 _ _
      have hJ3 : J ss W1 := hJ ss w2 W1 none hJ2 hg1 (fun r e => by cases e)
      have hvl : vis.length = ss.length := by simpa using congrArg List.length hvs
      rw [← hW1] at hst
      have hld : (kyLoad (.pointer (some ⟨w2.heap.size, 0, none⟩))).run Try.prog W1 = .ok y.val W1 := kyLoad_run (fun j u hj => by rw [Nat.zero_add]; exact (blk_cell hx1 j).trans (by simpa using hj))
      obtain ⟨fn, tmps, assign, body, hy, hR⟩ := hY ss y W1 hJ3 (by omega)
      obtain ⟨X, hX⟩ : ∃ X, X = y.val := ⟨_, rfl⟩
      rw [← hX] at hst hld hy hen ⊢
      have HX := Lib.hid hX
      clear hs2 hx1 hW1 hX
      gi_wp2_with fail
      refine hR.mono ?_
      rintro e W3 ⟨rfl, hJ4, hk3⟩
      gi_wp2
      have hrg3 := (hrg2.of_walks hk1).of_walks hk3
      go_roundw
      case rel => exact ⟨_, ss ++ [y], hrg3, by simp [hvs], hJ4⟩
      case measure => rw [hrg3.left, hrg.left]; simp; omega

/-- **maps.Keys gives each key once.** -/
theorem keysK_gives (F : Fence) (n : Nat) (h10 : F.fn 46) (hro : F.round = none) (hn : 1 ≤ n) (Bm b : Nat) (D : List (Value × Value)) (hD : ∀ p ∈ D, ∃ x : Key, p.1 = x.val) (w : World) (hBm : Bm < w.heap.size)
    (hm : w.cell? ⟨Bm, 0, none⟩ = some (.map (some b))) (hown : GMap Try.prog 31 w b D) :
    SeqGives F n Try.prog 46 #[.pointer (some ⟨Bm, 0, none⟩)] Key.val (fun ss => (ss.map Key.val).Perm (D.map (·.1))) D.length w := fun l J W hW hJ hY h0 =>
  keys1K_in F n h10 hro hn l Bm b D hD J hY W hJ ((hW.cell (p := ⟨Bm, 0, none⟩) hBm).trans hm) (hown.of_eq (hW.block b hown.lt)) h0

end Go.Proofs.Ytimbhkbdmcbodaa
