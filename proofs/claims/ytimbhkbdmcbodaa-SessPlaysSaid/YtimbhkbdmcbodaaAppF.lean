/-
  append onto a slice that is full (its capacity its length), whatever it lies in: a new row, or the old where nothing comes to it. Any program.
-/
import Derived.Test.YtimbhkbdmcbodaaLib
import Derived.Deep.AppendSrc
import Derived.Laws.AppendOwn
import Derived.Lib.AppendZeros
namespace Go.Proofs.Ytimbhkbdmcbodaa
open Go.RowKit
set_option linter.unusedVariables false
set_option linter.unusedSimpArgs false
section
variable {P : Program}

theorem src_row {S : Nat → Prop} {w : World} {size : Nat} {tx e' : TypeId} (hk : P.underlying tx = some (.slice e')) {A : Option Addr} {m : Nat} (c : Nat) {news : List Value} (hr : RowAt S w A news) (hl : news.length = m * size) (h1 : ∀ u ∈ news, u.oneCell' = true) (hs : 0 < size) : Src P size tx (.slice A m c) m news w := by
  rcases hr with h0 | ⟨b, o, e, _, hc⟩
  · subst h0
    have hm : m = 0 := by
      rcases Nat.mul_eq_zero.1 hl.symm with h | h
      · exact h
      · omega
    subst hm
    cases A with
    | none => exact Src.ofNil w hk c
    | some ad => exact Src.ofSlice w hk ad 0 c [] hl (fun j u hj => by simp at hj) h1
  · subst e
    exact Src.ofSlice w hk _ m c news hl (fun j u hj => by rw [Addr.add_lit]; exact hc j u hj) h1
theorem run_append_full {S : Nat → Prop} (w : World) (t ty e : TypeId) (i : TypeInfo) (z : Value) (size bytes : Nat) (ht : P.underlying t = some (.slice e)) (hi : P.info? e = some i) (hz : i.zero = some z)
    (hsize : i.size = size) (hby : i.bytes = bytes) (hsz : 0 < size) (A : Option Addr) (n : Nat) (xs : List Value) (hx : RowAt S w A xs) (hxl : xs.length = n * size)
    (A2 : Option Addr) (m c2 : Nat) (news : List Value) (hr : RowAt S w A2 news) (hl : news.length = m * size) (h1 : ∀ u ∈ news, u.oneCell' = true)
    (h63 : n + m ≤ maxLen) (hbytes : (n + m) * bytes ≤ 140737488355328) :
    ∃ A' c' w', (Builtin.append_ #[t, t] ty #[.slice A n n, .slice A2 m c2]).run P w = .ok (.slice A' (n + m) c') w' ∧ Mod No w w' ∧ n + m ≤ c' ∧ c' ≤ maxLen ∧ RowAt (fun b => S b ∨ w.heap.size ≤ b) w' A' (xs ++ news) := by
  subst hsize hby
  have hsrc := src_row (P := P) ht c2 hr hl h1 hsz
  have hn0 : A = none → n = 0 := fun h => by
    subst h
    rcases hx with h0 | ⟨b, o, e, _⟩
    · subst h0
      rcases Nat.mul_eq_zero.1 hxl.symm with h | h
      · exact h
      · omega
    · cases e
  rcases Nat.eq_zero_or_pos m with rfl | hm
  · have hnews : news = [] := List.eq_nil_of_length_eq_zero (by simpa using hl)
    subst hnews
    refine ⟨A, n, w, ?_, Mod.refl _ _, by omega, by omega, ?_⟩
    · cases A with
      | none =>
        have := hn0 rfl
        subst this
        have h3 := hsrc.len w
        have h4 := hsrc.cells
        simp [Builtin.append_, run_underlying ht, sizeOf, typeInfo, hi, h3, h4, storeCells, Builtin.lenOf]
      | some b =>
        have h3 := hsrc.len w
        have h4 := hsrc.cells
        simp [Builtin.append_, run_underlying ht, sizeOf, typeInfo, hi, h3, h4, storeCells, Builtin.lenOf]
    · rw [List.append_nil]
      exact hx.mono (fun b _ h => .inl h)
  · have hold : (Builtin.firstCells i.size n (.slice A n n)).run P w.drew = .ok xs.toArray w.drew := by
      rcases hx with h0 | ⟨b, o, e, _, hc⟩
      · subst h0
        have hn : n = 0 := by
          rcases Nat.mul_eq_zero.1 hxl.symm with h | h
          · exact h
          · omega
        subst hn
        cases A with
        | none => exact run_firstCells_none w.drew _ 0 0 0
        | some ad => exact run_firstCells_some w.drew _ 0 ad 0 0 [] hxl (fun j u hj => by simp at hj)
      · subst e
        exact run_firstCells_some w.drew _ n _ n n xs hxl (fun j u hj => by rw [Addr.add_lit]; exact hc j u hj)
    have h := run_append_grow_src (P := P) w t t ty e i z ht hi hz A n n xs hold (.slice A2 m c2) m news hsrc (by omega) (by unfold maxLen at h63; omega) (growslice_fits (by omega) hbytes)
    refine ⟨_, _, _, h, (Mod.refl No w).drew.alloc _, grownCap_ge _ _ _ _, grownCap_le_maxLen _ _ _ _ h63, .inr ⟨w.heap.size, 0, rfl, .inr (Nat.le_refl _), fun j u hj => ?_⟩⟩
    have hb := at10 w.drew (.cells ((xs ++ news).toArray ++ Builtin.zeroCells z.cells (grownCap w (n + m) n e - (n + m))) e)
    have hz0 : w.drew.heap.size = w.heap.size := rfl
    rw [hz0] at hb
    rw [Nat.zero_add, blk_cell hb j, Array.getElem?_append_left (by simpa using (List.getElem?_eq_some_iff.1 hj).1)]
    simpa using hj
/-- At a step of a region that draws: an append whose run is known. -/
theorem step_append_run {w : World} {ops : Array Oper} {o : Oper} {a : Act} {K : Act → World → Prop} {Q : Exit → Act → World → Prop} {E : Prop} (hgd : o.guard = none) (s x : Operand) (t tn : TypeId)
    (ho : o.op = .call { callee := .builtin .append, args := #[s, x], argTypes := #[t, tn] }) (vs vx : Value) (hs : a.eval s = vs) (hx : a.eval x = vx)
    (v' : Value) (w' : World) (hr : (Builtin.append_ #[t, tn] o.type #[vs, vx]).run P w = .ok v' w') (h : K (a.put o.dst v') w') :
    if Region.wanted o (yielded ops a.tmps) = true then Oper.wp P o a w K Q else E := by
  have hw : Region.wanted o (yielded ops a.tmps) = true := by simp [Region.wanted, hgd]
  rw [if_pos hw]
  exact Lib.wp_append_run w s x t tn ho vs vx hs hx v' w' hr h
/-- The same, the world compared first (cheaply): so that an arm that does not fit fails at once. -/
theorem step_append_at {w W0 : World} {ops : Array Oper} {o : Oper} {a : Act} {K : Act → World → Prop} {Q : Exit → Act → World → Prop} {E : Prop} (hw : w = W0) (hgd : o.guard = none) (s x : Operand) (t tn : TypeId)
    (ho : o.op = .call { callee := .builtin .append, args := #[s, x], argTypes := #[t, tn] }) (vs vx : Value) (hs : a.eval s = vs) (hx : a.eval x = vx)
    (v' : Value) (w' : World) (hr : (Builtin.append_ #[t, tn] o.type #[vs, vx]).run P W0 = .ok v' w') (h : K (a.put o.dst v') w') :
    if Region.wanted o (yielded ops a.tmps) = true then Oper.wp P o a w K Q else E := by
  subst hw
  exact step_append_run hgd s x t tn ho vs vx hs hx v' w' hr h
end

end Go.Proofs.Ytimbhkbdmcbodaa
