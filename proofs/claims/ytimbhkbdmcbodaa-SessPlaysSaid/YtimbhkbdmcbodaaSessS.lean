/-
  A table's sessions as a list: what Add, Put, Drop, Find come to, the same in any order of laying. Plain law.
-/
import Derived.Test.YtimbhkbdmcbodaaSessR
namespace Go.Proofs.Ytimbhkbdmcbodaa
set_option linter.unusedVariables false

/-- No two have the same f. -/
def Uniq (f : Sess → Key) (L : List Sess) : Prop := ∀ (i j : Nat) (s t : Sess), L[i]? = some s → L[j]? = some t → f s = f t → i = j
def lput (s : Sess) (L : List Sess) : List Sess := L.map fun x => if x.key = s.key then { s with out := x.out } else x
def ldrop (k : Key) (L : List Sess) : List Sess := L.filter fun x => decide (x.key ≠ k)
theorem Srt.uniq {M : List Sess} (h : Srt M) : Uniq (·.key) M := by
  intro i j s t hi hj he
  obtain ⟨li, rfl⟩ := List.getElem?_eq_some_iff.1 hi
  obtain ⟨lj, rfl⟩ := List.getElem?_eq_some_iff.1 hj
  have hp := List.pairwise_iff_getElem.1 h
  rcases Nat.lt_trichotomy i j with hl | hl | hl
  · have := hp i j li lj hl
    simp only at he
    rw [he] at this
    exact absurd this (klt.irrefl _)
  · exact hl
  · have := hp j i lj li hl
    simp only at he
    rw [he] at this
    exact absurd this (klt.irrefl _)
theorem find_uniq {f : Sess → Key} {L : List Sess} (hu : Uniq f L) {x : Sess} (hx : x ∈ L) : L.find? (fun s => f s = f x) = some x := by
  cases hf : L.find? (fun s => f s = f x) with
  | none => exact absurd (List.find?_eq_none.1 hf x hx) (by simp)
  | some y =>
    have hy := List.mem_of_find?_eq_some hf
    have hk : f y = f x := by simpa using List.find?_some hf
    obtain ⟨i, hi⟩ := List.getElem?_of_mem hy
    obtain ⟨j, hj⟩ := List.getElem?_of_mem hx
    have := hu i j y x hi hj hk
    subst this
    rw [hi] at hj
    exact hj
theorem find_perm {f : Sess → Key} {L M : List Sess} (hu : Uniq f L) (hp : M.Perm L) (k : Key) : M.find? (fun s => f s = k) = L.find? (fun s => f s = k) := by
  cases hf : M.find? (fun s => f s = k) with
  | none =>
    symm
    rw [List.find?_eq_none]
    intro x hx
    exact List.find?_eq_none.1 hf x (hp.mem_iff.2 hx)
  | some x =>
    have hk : f x = k := by simpa using List.find?_some hf
    have h := find_uniq hu (hp.mem_iff.1 (List.mem_of_find?_eq_some hf))
    rw [hk] at h
    exact h.symm
theorem set_lput {L : List Sess} (hu : Uniq (·.key) L) {j : Nat} {x s : Sess} (hj : L[j]? = some x) (hx : x.key = s.key) : L.set j { s with out := x.out } = lput s L := by
  apply List.ext_getElem?
  intro i
  rw [List.getElem?_set, lput, List.getElem?_map]
  by_cases h : j = i
  · subst h
    rw [if_pos rfl, if_pos (List.getElem?_eq_some_iff.1 hj).1, hj]
    simp [hx]
  · rw [if_neg h]
    cases hi : L[i]? with
    | none => rfl
    | some y =>
      have hne : y.key ≠ s.key := fun e => h (hu j i x y hj hi (hx.trans e.symm))
      simp [hne]
theorem lput_none {L : List Sess} {s : Sess} (h : L.find? (fun x => x.key = s.key) = none) : lput s L = L := by
  unfold lput
  have : ∀ x ∈ L, (if x.key = s.key then { s with out := x.out } else x) = x := fun x hx => by
    have := List.find?_eq_none.1 h x hx
    simp only [decide_eq_true_eq] at this
    rw [if_neg this]
  rw [List.map_congr_left this, List.map_id']
theorem ldrop_none {L : List Sess} {k : Key} (h : L.find? (fun x => x.key = k) = none) : ldrop k L = L := by
  unfold ldrop
  rw [List.filter_eq_self]
  intro x hx
  simpa using List.find?_eq_none.1 h x hx
theorem erase_ldrop {L : List Sess} (hu : Uniq (·.key) L) {j : Nat} {x : Sess} (hj : L[j]? = some x) : L.eraseIdx j = ldrop x.key L := by
  obtain ⟨hlt, he⟩ := List.getElem?_eq_some_iff.1 hj
  have e1 : L = L.take j ++ x :: L.drop (j + 1) := by rw [← he, ← List.drop_eq_getElem_cons hlt, List.take_append_drop]
  have h1 : (L.take j).filter (fun y => decide (y.key ≠ x.key)) = L.take j := by
    rw [List.filter_eq_self]
    intro y hy
    obtain ⟨i, hi⟩ := List.getElem?_of_mem hy
    have hij : i < j := by have := (List.getElem?_eq_some_iff.1 hi).1; simp at this; omega
    rw [List.getElem?_take_of_lt hij] at hi
    simp only [decide_eq_true_eq]
    intro e
    have := hu i j y x hi hj e
    omega
  have h2 : (L.drop (j + 1)).filter (fun y => decide (y.key ≠ x.key)) = L.drop (j + 1) := by
    rw [List.filter_eq_self]
    intro y hy
    obtain ⟨i, hi⟩ := List.getElem?_of_mem hy
    rw [List.getElem?_drop] at hi
    simp only [decide_eq_true_eq]
    intro e
    have := hu _ j y x hi hj e
    omega
  rw [List.eraseIdx_eq_take_drop_succ]
  conv => rhs; rw [e1]
  unfold ldrop
  rw [List.filter_append, List.filter_cons_of_neg (by simp), h1, h2]
theorem Srt.lput {M : List Sess} (h : Srt M) (s : Sess) : Srt (lput s M) := by
  unfold Srt Proofs.Ytimbhkbdmcbodaa.lput at *
  rw [List.pairwise_map]
  refine h.imp (fun {a b} hab => ?_)
  have e : ∀ y : Sess, (if y.key = s.key then { s with out := y.out } else y).key = y.key := fun y => by
    by_cases hy : y.key = s.key
    · rw [if_pos hy]; exact hy.symm
    · rw [if_neg hy]
  rw [e, e]
  exact hab
theorem Srt.ldrop {M : List Sess} (h : Srt M) (k : Key) : Srt (ldrop k M) := h.sublist List.filter_sublist
theorem Srt.insert {M : List Sess} (h : Srt M) {k : Nat} {s : Sess} (h1 : ∀ x ∈ M.take k, klt x.key s.key) (h2 : ∀ x, M[k]? = some x → ¬ klt x.key s.key) (hn : M.find? (fun x => x.key = s.key) = none) : Srt (M.take k ++ s :: M.drop k) := by
  unfold Srt at *
  rw [List.pairwise_append]
  have hgt : ∀ x ∈ M.drop k, klt s.key x.key := by
    intro x hx
    obtain ⟨i, hi⟩ := List.getElem?_of_mem hx
    rw [List.getElem?_drop] at hi
    obtain ⟨hl, he⟩ := List.getElem?_eq_some_iff.1 hi
    obtain ⟨y, hy⟩ : ∃ y, M[k]? = some y := ⟨_, List.getElem?_eq_getElem (by omega)⟩
    have hy1 := h2 y hy
    have hy2 : y.key ≠ s.key := by simpa using List.find?_eq_none.1 hn y (List.mem_of_getElem? hy)
    have hy3 : klt s.key y.key := by
      by_cases hc : klt s.key y.key
      · exact hc
      · exact absurd (klt_total hy1 hc) hy2
    rcases Nat.eq_zero_or_pos i with h0 | h0
    · subst h0
      rw [Nat.add_zero, hy] at hi
      cases hi
      exact hy3
    · obtain ⟨hl', he'⟩ := List.getElem?_eq_some_iff.1 hy
      have := List.pairwise_iff_getElem.1 h k (k + i) hl' hl (by omega)
      rw [he, he'] at this
      exact hy3.trans this
  refine ⟨h.sublist (List.take_sublist _ _), ?_, ?_⟩
  · rw [List.pairwise_cons]
    exact ⟨hgt, h.sublist (List.drop_sublist _ _)⟩
  · intro a ha b hb
    rcases List.mem_cons.1 hb with rfl | hb
    · exact h1 a ha
    · exact (h1 a ha).trans (hgt b hb)
theorem insert_perm {M L : List Sess} (hp : M.Perm L) (k : Nat) (s : Sess) : (M.take k ++ s :: M.drop k).Perm (L ++ [s]) := by
  refine (List.perm_middle).trans ?_
  rw [List.take_append_drop]
  exact (hp.cons s).trans (List.perm_append_singleton s L).symm
theorem lput_perm {M L : List Sess} (hp : M.Perm L) (s : Sess) : (lput s M).Perm (lput s L) := hp.map _
theorem ldrop_perm {M L : List Sess} (hp : M.Perm L) (k : Key) : (ldrop k M).Perm (ldrop k L) := hp.filter _

end Go.Proofs.Ytimbhkbdmcbodaa
