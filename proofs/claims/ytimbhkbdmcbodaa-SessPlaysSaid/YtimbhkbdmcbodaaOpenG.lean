/-
  From an argument's reading to what the walks ask: a field of a struct; a slice of whatever element. Any program. Ours.
  Conditions: none.
-/
import Derived.Test.YtimbhkbdmcbodaaOpen
import Derived.Deep.Slices
namespace Go.Proofs.Ytimbhkbdmcbodaa
open Go.ChangeShapes Go.WideShapes Go.ChangeAt Go.RowKit Go.Deep
set_option linter.unusedVariables false
variable {H : Type} {enc : TypeId × Value → H} {P : Program} {w : World}

theorem field_at {t : TypeId} {fs : Array Field} {fuel : Nat} {cs : List Value} {x : DataW H × List MemPlace} (ht : P.underlying t = some (.struct fs)) (h : DataW.trod enc P w 0 (fun _ => true) true fuel t cs = some x) (i : Nat) (f : Field) (hf : fs[i]? = some f) :
    ∃ n y, DataW.trod enc P w 0 (fun _ => true) true n f.type ((cs.drop f.offset).take (P.cellsOf f.type)) = some y := by
  obtain ⟨xs, n, _, _, hl, hlen, hall⟩ := DataW.trod_struct ht h
  have h1 := hall i f hf
  obtain ⟨y, hy⟩ : ∃ y, xs[i]? = some y := ⟨_, List.getElem?_eq_getElem (by rw [hlen]; exact (Array.getElem?_eq_some_iff.1 hf).1)⟩
  exact ⟨n, y, h1.trans hy⟩
theorem struct_len {t : TypeId} {fs : Array Field} {fuel : Nat} {cs : List Value} {x : DataW H × List MemPlace} (ht : P.underlying t = some (.struct fs)) (h : DataW.trod enc P w 0 (fun _ => true) true fuel t cs = some x) : cs.length = P.cellsOf t := by
  obtain ⟨xs, n, _, _, hl, _⟩ := DataW.trod_struct ht h
  exact hl
theorem cut_at {α : Type} (l : List α) (a k : Nat) : l.drop a = (l.drop a).take k ++ l.drop (a + k) := by
  rw [← List.drop_drop, List.take_append_drop]
/-- A slice of elements, each of which opens to something. -/
theorem open_slice_of {α : Type} [Inhabited α] (f : α → List Value) (k : Nat) (hk : ∀ a, (f a).length = k) (k0 : 0 < k) (Good : α → Prop) {t e : TypeId} (ht : P.underlying t = some (.slice e)) (hc : P.cellsOf e = k)
    (hop : ∀ (n : Nat) (cs : List Value) (y : DataW H × List MemPlace), DataW.trod enc P w 0 (fun _ => true) true n e cs = some y → ∃ a, cs = f a ∧ Good a)
    {fuel : Nat} {A : Option Addr} {len cap : Nat} {x : DataW H × List MemPlace} (h : DataW.trod enc P w 0 (fun _ => true) true fuel t [.slice A len cap] = some x) :
    ∃ l : List α, l.length = len ∧ len ≤ 9223372036854775807 ∧ len ≤ cap ∧ RowAt (fun _ => True) w A (l.flatMap f) ∧ ∀ a ∈ l, Good a := by
  rcases open_slice ht h with ⟨hcs, hx⟩ | ⟨a, len', cap', m, n, D, Pl, hcs, _, hl, hm, hmm, _, hx⟩
  · simp only [List.cons.injEq, Value.slice.injEq, and_true] at hcs
    obtain ⟨rfl, rfl, rfl⟩ := hcs
    exact ⟨[], rfl, by omega, by omega, .nil _ _ _, by simp⟩
  · simp only [List.cons.injEq, Value.slice.injEq, and_true] at hcs
    obtain ⟨rfl, rfl, rfl⟩ := hcs
    simp only [if_true] at hmm
    have hv : ∀ i, i < len → ∃ x : α, Good x ∧ w.cells? 0 (a.add (i * k)) k = some (f x) := by
      intro i hi
      obtain ⟨cs', h1, h2⟩ := hx i (by omega)
      rw [hc] at h1
      obtain ⟨x, rfl, hxo⟩ := hop _ _ _ h2
      exact ⟨x, hxo, h1⟩
    obtain ⟨g, hg⟩ : ∃ g : Nat → α, ∀ i, i < len → Good (g i) ∧ w.cells? 0 (a.add (i * k)) k = some (f (g i)) :=
      ⟨fun i => if h : i < len then (hv i h).choose else default, fun i hi => by simp only [hi, dif_pos]; exact (hv i hi).choose_spec⟩
    refine ⟨(List.range len).map g, by simp, by unfold maxLen at hm; omega, hl, ?_, fun x hx => by
      obtain ⟨i, hi, rfl⟩ := List.mem_map.1 hx
      exact (hg i (by simpa using hi)).1⟩
    by_cases h0 : len = 0
    · subst h0
      exact .nil _ _ _
    · have hcell : ∀ i, i < len → ∀ j, j < k → w.cell? ((a.add (i * k)).add j) = (f (g i))[j]? := by
        intro i hi j hj
        obtain ⟨h1, h2, h3⟩ := World.cells?_some (hg i hi).2
        exact h3 j hj
      obtain ⟨b, o, spot⟩ := a
      have hs : spot = none := by
        have h1 := hcell 0 (by omega) 0 k0
        have h2 : ∃ v, (f (g 0))[0]? = some v := ⟨_, List.getElem?_eq_getElem (by rw [hk]; exact k0)⟩
        obtain ⟨v, hv⟩ := h2
        rw [hv] at h1
        simpa [Addr.add] using World.cell?_spot h1
      subst hs
      refine .inr ⟨b, o, rfl, trivial, fun j v hj => ?_⟩
      have hjl := (List.getElem?_eq_some_iff.1 hj).1
      rw [flat_length f k hk, List.length_map, List.length_range] at hjl
      have hi : j / k < len := (Nat.div_lt_iff_lt_mul k0).2 hjl
      have hr : ((List.range len).map g)[j / k]? = some (g (j / k)) := by simp [hi]
      have hf := flat_at f k hk _ (j / k) (j % k) _ hr (Nat.mod_lt _ k0)
      rw [Nat.div_add_mod' j k] at hf
      have hj' : (f (g (j / k)))[j % k]? = some v := by rw [← hf]; exact hj
      have h1 := hcell (j / k) hi (j % k) (Nat.mod_lt _ k0)
      rw [hj', Addr.add_lit, Addr.add_lit, Nat.add_assoc, Nat.div_add_mod' j k] at h1
      exact h1
theorem nat_of_wf {k : IntKind} {z : Int} (hs : k.min = 0) (h : (Lit.int k z).wf = true) : ∃ n : Nat, z = (n : Int) ∧ (n : Int) ≤ k.max := by
  have h1 : k.min ≤ z ∧ z ≤ k.max := by simpa [Lit.wf] using h
  exact ⟨z.toNat, by omega, by omega⟩
theorem in64_of_wf {z : Int} (h : (Lit.int .i64 z).wf = true) : -9223372036854775808 ≤ z ∧ z ≤ 9223372036854775807 := by
  have h1 : IntKind.i64.min ≤ z ∧ z ≤ IntKind.i64.max := by simpa [Lit.wf] using h
  simpa [IntKind.min, IntKind.max, IntKind.signed, IntKind.bits] using h1

end Go.Proofs.Ytimbhkbdmcbodaa
