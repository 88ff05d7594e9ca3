/-
  append, the source a row that may be nil or empty; what an index reads in a row of slices. No function of the program in sight.
-/
import Derived.Test.YtimbhkbdmcbodaaLib
import Derived.Maps.AppendAt
import Derived.Lib.AppendZerosOnto
import Derived.Lib.AppendZeros
namespace Go.Proofs.Ytimbhkbdmcbodaa
open Go.RowKit
set_option linter.unusedVariables false
section
variable {P : Program}

theorem append_nothing (w : World) (base : Nat) (t ty e : TypeId) (i : TypeInfo) (size : Nat) (ht : P.underlying t = some (.slice e)) (hi : P.info? e = some i)
    (v : Value) (n : Nat) (xs : List Value) (hown : w.ownsRow base e size v n xs) (c : Nat) : (Builtin.append_ #[t, t] ty #[v, .slice none 0 c]).run P w = .ok v w := by
  rcases hown.2 with ⟨rfl, rfl⟩ | ⟨g, cap, cur, rfl, _, _, hn, _⟩
  · simp [Builtin.append_, run_underlying ht, sizeOf, typeInfo, hi, Builtin.lenOf, Builtin.firstCells]
  · simp [Builtin.append_, run_underlying ht, sizeOf, typeInfo, hi, Builtin.lenOf, Builtin.firstCells, hn, storeCells]
/-- append, whatever the source: nil, empty, or a row. -/
theorem run_append_row {S : Nat → Prop} (w : World) (base : Nat) (t ty e : TypeId) (i : TypeInfo) (z : Value) (size bytes : Nat) (ht : P.underlying t = some (.slice e)) (hi : P.info? e = some i) (hz : i.zero = some z)
    (hsize : i.size = size) (hby : i.bytes = bytes) (hzs : z.cells.size = size) (hsz : 0 < size) (v : Value) (n : Nat) (xs : List Value) (hown : w.ownsRow base e size v n xs)
    (A : Option Addr) (m c : Nat) (news : List Value) (hr : RowAt S w A news) (hl : news.length = m * size) (h1 : ∀ u ∈ news, u.oneCell' = true)
    (h63 : n + m ≤ maxLen) (hbytes : (n + m) * bytes ≤ 140737488355328) (hbase : base ≤ w.heap.size) :
    ∃ v' w', (Builtin.append_ #[t, t] ty #[v, .slice A m c]).run P w = .ok v' w' ∧ w'.ownsRow base e size v' (n + m) (xs ++ news) ∧ w.grownBy w' v.ownBlock ∧ (v'.ownBlock = v.ownBlock ∨ v'.ownBlock = some w.heap.size) := by
  have some_ : ∀ ad : Addr, A = some ad → (∀ j u, news[j]? = some u → w.cell? (ad.add j) = some u) → ∃ v' w', (Builtin.append_ #[t, t] ty #[v, .slice A m c]).run P w = .ok v' w' ∧ w'.ownsRow base e size v' (n + m) (xs ++ news) ∧ w.grownBy w' v.ownBlock ∧ (v'.ownBlock = v.ownBlock ∨ v'.ownBlock = some w.heap.size) := by
    intro ad e1 hc
    subst e1
    obtain ⟨v', w', a1, a2, a3, _, a5⟩ := run_append_own_at (P := P) w base t ty e i z size bytes ht hi hz hsize hby hzs hsz v n xs hown ad m c news hl hc h1 h63 hbytes hbase
    exact ⟨v', w', a1, a2, a3, a5⟩
  rcases hr with h0 | ⟨b, o, e1, _, hc⟩
  · subst h0
    cases A with
    | some ad => exact some_ ad rfl (fun j u hj => by simp at hj)
    | none =>
      have hm : m = 0 := by
        rcases Nat.mul_eq_zero.1 hl.symm with h | h
        · exact h
        · omega
      subst hm
      exact ⟨v, w, append_nothing w base t ty e i size ht hi v n xs hown c, by simpa using hown, World.grownBy.refl w _, .inl rfl⟩
  · exact some_ _ e1 (fun j u hj => by rw [Addr.add_lit]; exact hc j u hj)
end
/-- A part: where it lies, its capacity, its cells. -/
def partVal (p : Option Addr × Nat × List Value) : Value := .slice p.1 p.2.2.length p.2.1
def partsAll (l : List (Option Addr × Nat × List Value)) : List Value := l.flatMap fun p => p.2.2
theorem partsAll_snoc {l : List (Option Addr × Nat × List Value)} {k : Nat} {p : Option Addr × Nat × List Value} (h : l[k]? = some p) : partsAll (l.take (k + 1)) = partsAll (l.take k) ++ p.2.2 := by
  obtain ⟨hl, e⟩ := List.getElem?_eq_some_iff.1 h
  rw [List.take_succ_eq_append_getElem hl, e]
  simp [partsAll]
theorem partsAll_le (l : List (Option Addr × Nat × List Value)) (k : Nat) : (partsAll (l.take k)).length ≤ (partsAll l).length := by
  have : partsAll l = partsAll (l.take k) ++ partsAll (l.drop k) := by rw [partsAll, partsAll, partsAll, ← List.flatMap_append, List.take_append_drop]
  rw [this, List.length_append]
  omega

end Go.Proofs.Ytimbhkbdmcbodaa
