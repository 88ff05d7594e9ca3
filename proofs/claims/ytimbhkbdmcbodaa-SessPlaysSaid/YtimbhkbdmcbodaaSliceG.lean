/-
  Parts of rows: xs[i:], xs[:i:i]. Any program, elements of any size.
-/
import Derived.Test.YtimbhkbdmcbodaaLib
namespace Go.Proofs.Ytimbhkbdmcbodaa
open Go.RowKit
set_option linter.unusedVariables false
section
variable {P : Program} {t e : TypeId}

theorem row_part {S : Nat → Prop} {w : World} {A : Option Addr} {cs : List Value} (h : RowAt S w A cs) (k : Nat) : RowAt S w (A.map (·.add k)) (cs.drop k) := by
  rcases h with h | ⟨b, o, e, hs, hc⟩
  · subst h; simp; exact .nil _ _ _
  · subst e
    refine .inr ⟨b, o + k, ?_, hs, fun j v hj => ?_⟩
    · simp [Addr.add_lit]
    · rw [Nat.add_assoc]
      refine hc _ v ?_
      rw [List.getElem?_drop] at hj
      exact hj
/-- xs[i:] -/
theorem slice_tail (t e : TypeId) (k : Nat) (ht : P.underlying t = some (.slice e)) (he : P.elem t = e) (hz : ∀ W, (sizeOf e).run P W = .ok k W) (A : Option Addr) (n c i : Nat) (h1 : i ≤ n) (h2 : n ≤ c) :
    ∃ A', (∀ W, (Instr.slice t (.slice A n c) (some (.int .i64 (i : Int))) none none).run P W = .ok (.slice A' (n - i) (c - i)) W) ∧ ∀ (S : Nat → Prop) (w : World) (cs : List Value), cs.length = n * k → RowAt S w A cs → RowAt S w A' (cs.drop (i * k)) := by
  refine ⟨if c = i then A else A.map (·.add (i * k)), fun W => ?_, fun S w cs hl hr => ?_⟩
  · rw [run_slice_l (P := P) W t A n c (by rw [he]; exact ht) .i64 (i : Int) (by omega) (by omega), he, hz]
    simp only [Result.andThen, sliced, Int.toNat_natCast]
  · by_cases hc : c = i
    · have : cs.drop (i * k) = [] := List.drop_of_length_le (by rw [hl]; exact Nat.mul_le_mul_right k (by omega))
      rw [this]
      exact .nil _ _ _
    · rw [if_neg hc]
      exact row_part hr _
theorem slice_tail' (t e : TypeId) (k : Nat) (ht : P.underlying t = some (.slice e)) (he : P.elem t = e) (hz : ∀ W, (sizeOf e).run P W = .ok k W) (A : Option Addr) (n c i : Nat) (h1 : i ≤ n) (h2 : n ≤ c) :
    ∃ A', (∀ W, (Instr.sliceAt t (.slice A n c) (some (.int .i64 (i : Int))) none none).run P W = .ok (.slice A' (n - i) (c - i)) W) ∧ ∀ (S : Nat → Prop) (w : World) (cs : List Value), cs.length = n * k → RowAt S w A cs → RowAt S w A' (cs.drop (i * k)) := by
  obtain ⟨A', a, b⟩ := slice_tail t e k ht he hz A n c i h1 h2
  exact ⟨A', fun W => (run_sliceAt_slice (P := P) W t _ _ _ _ (by rw [he]; exact ht)).trans (a W), b⟩
/-- xs[:i:i] -/
theorem slice_full (t e : TypeId) (k : Nat) (ht : P.underlying t = some (.slice e)) (he : P.elem t = e) (hz : ∀ W, (sizeOf e).run P W = .ok k W) (A : Option Addr) (n c i : Nat) (h1 : i ≤ n) (h2 : n ≤ c) :
    ∀ W, (Instr.slice t (.slice A n c) none (some (.int .i64 (i : Int))) (some (.int .i64 (i : Int)))).run P W = .ok (.slice A i i) W := by
  intro W
  rw [run_slice_hm (P := P) W t A n c (by rw [he]; exact ht) .i64 .i64 (i : Int) (i : Int) (by omega) (by omega) (by omega), he, hz]
  simp only [Result.andThen, sliced, Int.toNat_natCast, Nat.zero_mul, Nat.sub_zero]
  congr 2
  by_cases h : i = 0
  · simp [h]
  · rw [if_neg h]
    cases A with
    | none => rfl
    | some a => simp [Addr.add]
theorem row_take {S : Nat → Prop} {w : World} {A : Option Addr} {cs : List Value} (h : RowAt S w A cs) (k : Nat) : RowAt S w A (cs.take k) := by
  rcases h with h | ⟨b, o, e, hs, hc⟩
  · subst h; simp; exact .nil _ _ _
  · refine .inr ⟨b, o, e, hs, fun j v hj => hc j v ?_⟩
    have hjk : j < k := by
      have := (List.getElem?_eq_some_iff.1 hj).1
      simp at this
      omega
    rwa [List.getElem?_take_of_lt hjk] at hj
end

end Go.Proofs.Ytimbhkbdmcbodaa
