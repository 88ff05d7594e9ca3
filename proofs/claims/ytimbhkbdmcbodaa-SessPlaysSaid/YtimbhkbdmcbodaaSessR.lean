/-
  A table's sessions in the order of their keys: plain law.
-/
import Derived.Test.YtimbhkbdmcbodaaSessO
namespace Go.Proofs.Ytimbhkbdmcbodaa
set_option linter.unusedVariables false

/-- Sessions in the order of their keys, each key once. -/
def Srt (M : List Sess) : Prop := M.Pairwise (fun a b => klt a.key b.key)
theorem Srt.find {M L : List Sess} (hs : Srt M) (hp : M.Perm L) {x : Sess} (hx : x ∈ M) : L.find? (fun s => s.key = x.key) = some x := by
  have hn : (L.map (·.key)).Nodup := by
    have : (M.map (·.key)).Nodup := by
      refine List.pairwise_map.2 (hs.imp (fun {a b} h e => ?_))
      rw [e] at h
      exact klt.irrefl _ h
    exact (hp.map _).nodup_iff.1 this
  cases hf : L.find? (fun s => s.key = x.key) with
  | none => exact absurd (List.find?_eq_none.1 hf x (hp.mem_iff.1 hx)) (by simp)
  | some y =>
    have hy := List.mem_of_find?_eq_some hf
    have hk : y.key = x.key := by simpa using List.find?_some hf
    obtain ⟨i, hi, rfl⟩ := List.getElem_of_mem hy
    obtain ⟨j, hj, hjx⟩ := List.getElem_of_mem (hp.mem_iff.1 hx)
    subst hjx
    have : i = j := (List.getElem?_inj (l := L.map (·.key)) (by simpa using hi) hn).1 (by simp [List.getElem?_map, List.getElem?_eq_getElem hi, List.getElem?_eq_getElem hj, hk])
    subst this
    rfl
theorem allOf_eq {L M : List Sess} (hp : M.Perm L) (hs : Srt M) : allOf L = M := by
  have h1 : kSort (L.map (·.key)) = M.map (·.key) := by
    refine List.Perm.eq_of_pairwise (le := fun x y => ¬ klt y x) (fun a b _ _ h1 h2 => klt_total h2 h1) (kSort_sorted _) ?_ ((kSort_perm _).trans (hp.symm.map _))
    refine List.pairwise_map.2 (hs.imp (fun {a b} h (k : klt b.key a.key) => klt.irrefl _ (klt.trans h k)))
  unfold allOf byKeys
  rw [h1, List.filterMap_map]
  have h2 : ∀ x ∈ M, ((fun k => L.find? (fun s => s.key = k)) ∘ (·.key)) x = some x := fun x hx => hs.find hp hx
  have h3 : ∀ l : List Sess, (∀ x ∈ l, ((fun k => L.find? (fun s => s.key = k)) ∘ (·.key)) x = some x) → l.filterMap ((fun k => L.find? (fun s => s.key = k)) ∘ (·.key)) = l := by
    intro l
    induction l with
    | nil => intro _; rfl
    | cons a l ih => intro h; rw [List.filterMap_cons_some (h a (by simp)), ih (fun x hx => h x (by simp [hx]))]
  exact h3 M h2

end Go.Proofs.Ytimbhkbdmcbodaa
