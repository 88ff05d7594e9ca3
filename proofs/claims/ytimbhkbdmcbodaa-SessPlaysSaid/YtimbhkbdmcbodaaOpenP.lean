/-
  From an argument's reading to what the walks ask: a point; a slice of points is a row of their cells. Ours.
  Conditions: none.
-/
import Derived.Test.YtimbhkbdmcbodaaSessA
import Derived.Test.YtimbhkbdmcbodaaOpen
namespace Go.Proofs.Ytimbhkbdmcbodaa
open Go.ChangeShapes Go.WideShapes Go.ChangeAt Go.RowKit Go.Deep

variable {H : Type} {enc : TypeId × Value → H} {w : World}

theorem cellsPoint : Try.prog.cellsOf 26 = 2 := by kernel_rfl
theorem cellsU32 : Try.prog.cellsOf 23 = 1 := by kernel_rfl
theorem cellsU16 : Try.prog.cellsOf 24 = 1 := by kernel_rfl

set_option maxRecDepth 100000 in
theorem open_point {fuel : Nat} {cs : Array Value} {x : DataW H × List MemPlace} (h : DataW.trod enc Try.prog w 0 (fun _ => true) true fuel 26 cs.toList = some x) :
    ∃ p : Point, Value.agg cs = p.val ∧ p.wf := by
  obtain ⟨y0, y1, n, _, hl, h0, h1⟩ := trod_struct2 Try.underlying26 h
  rw [cellsPoint] at hl
  obtain ⟨l⟩ := cs
  match l, hl with
  | [a, b], _ =>
    have h0' : DataW.trod enc Try.prog w 0 (fun _ => true) true n 23 [a] = some y0 := by
      have := h0
      rw [show Try.prog.cellsOf _ = 1 from cellsU32] at this
      exact this
    have h1' : DataW.trod enc Try.prog w 0 (fun _ => true) true n 24 [b] = some y1 := by
      have := h1
      rw [show Try.prog.cellsOf _ = 1 from cellsU16] at this
      exact this
    obtain ⟨i, hi, _, hw0⟩ := DataW.trod_int Try.underlying23 h0'
    obtain ⟨j, hj, _, hw1⟩ := DataW.trod_int Try.underlying24 h1'
    cases hi
    cases hj
    exact ⟨⟨i, j⟩, rfl, ⟨hw0, hw1⟩⟩

set_option maxRecDepth 100000 in
theorem open_row_points {fuel : Nat} {A : Option Addr} {len cap : Nat} {x : DataW H × List MemPlace}
    (h : DataW.trod enc Try.prog w 0 (fun _ => true) true fuel 22 [.slice A len cap] = some x) :
    ∃ l : List Point, l.length = len ∧ len ≤ 9223372036854775807 ∧ RowAt (fun _ => True) w A (ptCells l) ∧ ∀ p ∈ l, p.wf := by
  rcases open_slice_pairs Try.underlying22 Try.underlying26 cellsPoint rfl rfl cellsU32 cellsU16 h with ⟨hcs, hx⟩ | ⟨a, len', cap', m, n, V0, V1, D0, D1, P0, P1, hcs, _, hl, hm, hmm, _, hx⟩
  · simp only [List.cons.injEq, Value.slice.injEq, and_true] at hcs
    obtain ⟨rfl, rfl, rfl⟩ := hcs
    exact ⟨[], rfl, by omega, .nil _ _ _, by simp⟩
  · simp only [List.cons.injEq, Value.slice.injEq, and_true] at hcs
    obtain ⟨rfl, rfl, rfl⟩ := hcs
    simp only [if_true] at hmm
    unfold maxLen at hm
    have hv : ∀ i, i < len → V0 i = .int .u32 (intOf (V0 i)) ∧ V1 i = .int .u16 (intOf (V1 i)) ∧ (Lit.int .u32 (intOf (V0 i))).wf = true ∧ (Lit.int .u16 (intOf (V1 i))).wf = true := by
      intro i hi
      obtain ⟨_, _, h2, h3⟩ := hx i (by omega)
      obtain ⟨i0, e0, _, hw0⟩ := DataW.trod_int Try.underlying23 h2
      obtain ⟨i1, e1, _, hw1⟩ := DataW.trod_int Try.underlying24 h3
      cases e0' : V0 i <;> rw [e0'] at e0 <;> cases e0
      cases e1' : V1 i <;> rw [e1'] at e1 <;> cases e1
      exact ⟨rfl, rfl, hw0, hw1⟩
    refine ⟨(List.range len).map fun i => ⟨intOf (V0 i), intOf (V1 i)⟩, by simp, by omega, ?_, ?_⟩
    · by_cases h0 : len = 0
      · subst h0
        exact .nil _ _ _
      · obtain ⟨b, o, spot⟩ := a
        have hs : spot = none := by simpa [Addr.add] using World.cell?_spot (hx 0 (by omega)).1
        subst hs
        refine .inr ⟨b, o, rfl, trivial, fun j v hj => ?_⟩
        have hjl := (List.getElem?_eq_some_iff.1 hj).1
        rw [ptCells, flat_length Point.cells 2 (fun _ => rfl), List.length_map, List.length_range] at hjl
        have hi : j / 2 < len := by omega
        have hat := flat_at Point.cells 2 (fun _ => rfl) ((List.range len).map fun i => (⟨intOf (V0 i), intOf (V1 i)⟩ : Point)) (j / 2) (j % 2) ⟨intOf (V0 (j / 2)), intOf (V1 (j / 2))⟩ (by simp [hi]) (by omega)
        have ej : j / 2 * 2 + j % 2 = j := by omega
        rw [ej] at hat
        rw [ptCells, hat] at hj
        obtain ⟨c0, c1, _, _⟩ := hx (j / 2) (by omega)
        obtain ⟨v0, v1, _, _⟩ := hv (j / 2) hi
        rcases Nat.mod_two_eq_zero_or_one j with hm2 | hm2
        · rw [hm2] at hj
          simp only [Point.cells, List.getElem?_cons_zero, Option.some.injEq] at hj
          rw [add_plain, v0, hj] at c0
          rw [← c0]
          congr 2
          omega
        · rw [hm2] at hj
          simp only [Point.cells, List.getElem?_cons_succ, List.getElem?_cons_zero, Option.some.injEq] at hj
          rw [add_plain, v1, hj] at c1
          rw [← c1]
          congr 2
          omega
    · intro p hp
      simp only [List.mem_map, List.mem_range] at hp
      obtain ⟨i, hi, rfl⟩ := hp
      exact ⟨(hv i hi).2.2.1, (hv i hi).2.2.2⟩

end Go.Proofs.Ytimbhkbdmcbodaa
