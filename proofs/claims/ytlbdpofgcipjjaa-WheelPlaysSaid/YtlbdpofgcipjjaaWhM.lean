/-
  The wheel's maps as one list of (number, slot, tick), in the order in which they were set. No program in sight.
-/
import Derived.Test.YtlbdpofgcipjjaaWhPure
namespace Go.Proofs.Ytlbdpofgcipjjaa
set_option linter.unusedVariables false

abbrev Ent := Int × Nat × Nat
def eDue (e : Ent) : Due := (e.1, e.2.2)
/-- What one slot holds. -/
def slotE (k : Nat) (M : List Ent) : List Ent := M.filter fun e => e.2.1 = k
theorem erase_filter {α : Type} {f : α → Int} : ∀ {l : List α} {i : Nat} {a : α}, (l.map f).Nodup → l[i]? = some a → l.eraseIdx i = l.filter (fun x => f x ≠ f a)
  | [], _, _, _, h => by simp at h
  | b :: l, 0, a, hn, h => by
    simp only [List.getElem?_cons_zero, Option.some.injEq] at h
    subst h
    simp only [List.map_cons, List.nodup_cons] at hn
    rw [List.eraseIdx_cons_zero, List.filter_cons]
    simp only [ne_eq, not_true_eq_false, decide_false]
    symm
    apply List.filter_eq_self.2
    intro x hx
    simp only [decide_eq_true_eq]
    exact fun e => hn.1 (List.mem_map.2 ⟨x, hx, e⟩)
  | b :: l, i + 1, a, hn, h => by
    simp only [List.getElem?_cons_succ] at h
    simp only [List.map_cons, List.nodup_cons] at hn
    have hb : f b ≠ f a := fun e => hn.1 (e ▸ List.mem_map.2 ⟨a, List.mem_of_getElem? h, rfl⟩)
    rw [List.eraseIdx_cons_succ, erase_filter hn.2 h, List.filter_cons]
    simp [hb]
theorem slotE_nodup {M : List Ent} (h : (M.map (·.1)).Nodup) (k : Nat) : ((slotE k M).map (·.1)).Nodup := h.sublist (List.filter_sublist.map _)
/-- One struck: its slot loses it, at its place there; every other slot stands. -/
theorem slotE_erase {M : List Ent} (h : (M.map (·.1)).Nodup) {i : Nat} {e : Ent} (hi : M[i]? = some e) :
    (∃ j, (slotE e.2.1 M)[j]? = some e ∧ slotE e.2.1 (M.eraseIdx i) = (slotE e.2.1 M).eraseIdx j) ∧ ∀ k, k ≠ e.2.1 → slotE k (M.eraseIdx i) = slotE k M := by
  have he : M.eraseIdx i = M.filter (fun x => x.1 ≠ e.1) := erase_filter (f := (·.1)) h hi
  constructor
  · have hm : e ∈ slotE e.2.1 M := List.mem_filter.2 ⟨List.mem_of_getElem? hi, by simp⟩
    obtain ⟨j, hj⟩ := List.mem_iff_getElem?.1 hm
    refine ⟨j, hj, ?_⟩
    rw [erase_filter (f := (·.1)) (slotE_nodup h _) hj, he]
    unfold slotE
    rw [List.filter_filter, List.filter_filter]
    apply List.filter_congr
    intro x _
    exact Bool.and_comm _ _
  · intro k hk
    rw [he]
    unfold slotE
    rw [List.filter_filter]
    apply List.filter_congr
    intro x hx
    by_cases hxk : x.2.1 = k
    · have : x.1 ≠ e.1 := fun f => by
        obtain ⟨j, hj⟩ := List.mem_iff_getElem?.1 hx
        have hij : j = i := (List.getElem?_inj (by have := (List.getElem?_eq_some_iff.1 hj).1; simpa using this) h).1 (by simp [hi, hj, f])
        subst hij
        rw [hi] at hj
        cases hj
        exact hk hxk.symm
      simp [hxk, this]
    · simp [hxk]
theorem slotE_push (M : List Ent) (id : Int) (s a : Nat) : slotE s (M ++ [(id, s, a)]) = slotE s M ++ [(id, s, a)] ∧ ∀ k, k ≠ s → slotE k (M ++ [(id, s, a)]) = slotE k M := by
  constructor
  · simp [slotE]
  · intro k hk
    have : ¬ s = k := fun f => hk f.symm
    simp [slotE, this]

/-- The clock, the maps, and what is due, in order. -/
structure WInv (now : Nat) (M : List Ent) (L : List Due) : Prop where
  ids : (M.map (·.1)).Nodup
  slots : ∀ e ∈ M, e.2.1 < 64
  perm : (M.map eDue).Perm L
  due : now < 2147483647 → ∀ e ∈ M, e.2.1 = max e.2.2 (now + 1) % 64
  ok : DOk L
theorem WInv.new (now : Nat) : WInv now [] [] := ⟨.nil, (fun e he => by simp at he), .nil, (fun _ e he => by simp at he), .nil⟩
theorem WInv.count {now : Nat} {M : List Ent} {L : List Due} (h : WInv now M L) : M.length = L.length := by simpa using h.perm.length_eq
theorem WInv.miss {now : Nat} {M : List Ent} {L : List Due} (h : WInv now M L) {id : Int} (hm : ∀ e ∈ M, e.1 ≠ id) : rhas L id = false ∧ rdrop L id = L := by
  have hl : ∀ p ∈ L, p.1 ≠ id := fun p hp => by
    obtain ⟨e, he, rfl⟩ := List.mem_map.1 (h.perm.mem_iff.2 hp)
    exact hm e he
  constructor
  · rw [Bool.eq_false_iff]
    intro f
    obtain ⟨a, ha⟩ := rhas_iff.1 f
    exact hl _ ha rfl
  · exact List.filter_eq_self.2 (fun p hp => by simpa using hl p hp)
theorem WInv.hit {now : Nat} {M : List Ent} {L : List Due} (h : WInv now M L) {i : Nat} {e : Ent} (hi : M[i]? = some e) : rhas L e.1 = true ∧ rat L e.1 = e.2.2 ∧ WInv now (M.eraseIdx i) (rdrop L e.1) := by
  have hL : eDue e ∈ L := h.perm.mem_iff.1 (List.mem_map.2 ⟨e, List.mem_of_getElem? hi, rfl⟩)
  refine ⟨rhas_iff.2 ⟨_, hL⟩, ?_, ?_⟩
  · have hs : ∃ q, L.find? (fun p => decide (p.1 = e.1)) = some q := by
      rw [← Option.isSome_iff_exists, List.find?_isSome]
      exact ⟨_, hL, by simp [eDue]⟩
    obtain ⟨q, hq⟩ := hs
    have h1 := List.find?_some hq
    have h2 := List.mem_of_find?_eq_some hq
    simp only [decide_eq_true_eq] at h1
    have : q = eDue e := by
      obtain ⟨j, hj⟩ := List.mem_iff_getElem?.1 h2
      obtain ⟨k, hk⟩ := List.mem_iff_getElem?.1 hL
      have hij : j = k := (List.getElem?_inj (by have := (List.getElem?_eq_some_iff.1 hj).1; simpa using this) h.ok.ids).1 (by simp only [List.getElem?_map, hj, hk, Option.map_some]; exact congrArg some h1)
      subst hij
      rw [hj] at hk
      cases hk
      rfl
    rw [rat, hq, this]
    rfl
  · have he : M.eraseIdx i = M.filter (fun x => x.1 ≠ e.1) := erase_filter (f := (·.1)) h.ids hi
    have hsub : ∀ x ∈ M.eraseIdx i, x ∈ M := fun x hx => List.mem_of_mem_eraseIdx hx
    refine ⟨?_, fun x hx => h.slots x (hsub x hx), ?_, fun hn x hx => h.due hn x (hsub x hx), h.ok.drop _⟩
    · rw [he]
      exact h.ids.sublist (List.filter_sublist.map _)
    · rw [he]
      have h1 := h.perm.filter (fun p => decide (p.1 ≠ e.1))
      rw [List.filter_map] at h1
      exact h1
theorem rins_perm (L : List Due) (d : Due) : (rins L d).Perm (d :: L) := by
  induction L with
  | nil => exact .refl _
  | cons a l ih =>
    unfold rins
    split
    · exact (ih.cons a).trans (.swap ..)
    · exact .refl _
theorem WInv.set {now : Nat} {M : List Ent} {L : List Due} (h : WInv now M L) {id : Int} (hm : ∀ e ∈ M, e.1 ≠ id) {a s : Nat} (hs : s < 64) (hd : now < 2147483647 → s = max a (now + 1) % 64) :
    WInv now (M ++ [(id, s, a)]) (rset L id a) := by
  have hr := (h.miss hm).2
  refine ⟨?_, ?_, ?_, ?_, h.ok.set _ _⟩
  · rw [List.map_append, List.nodup_append]
    refine ⟨h.ids, by simp, ?_⟩
    intro x hx y hy
    simp at hy
    subst hy
    obtain ⟨e, he, rfl⟩ := List.mem_map.1 hx
    exact hm e he
  · intro e he
    rcases List.mem_append.1 he with h1 | h1
    · exact h.slots e h1
    · simp at h1; subst h1; exact hs
  · unfold rset
    rw [hr, List.map_append]
    refine List.Perm.trans ?_ (rins_perm _ _).symm
    exact List.perm_append_comm.trans (h.perm.cons (id, a))
  · intro hn e he
    rcases List.mem_append.1 he with h1 | h1
    · exact h.due hn e h1
    · simp at h1; subst h1; exact hd hn
/-- The clock goes on: what is due stands all in the new slot. -/
theorem WInv.tick {now : Nat} {M : List Ent} {L : List Due} (h : WInv now M L) (hn : now < 2147483647) :
    (((slotE ((now + 1) % 64) M).filter (fun e => e.2.2 ≤ now + 1)).map eDue).Perm (rdue L (now + 1)) := by
  have h1 : (slotE ((now + 1) % 64) M).filter (fun e => decide (e.2.2 ≤ now + 1)) = M.filter (fun e => decide (e.2.2 ≤ now + 1)) := by
    unfold slotE
    rw [List.filter_filter]
    apply List.filter_congr
    intro e he
    by_cases hle : e.2.2 ≤ now + 1
    · have := h.due hn e he
      rw [Nat.max_eq_right hle] at this
      simp [hle, this]
    · simp [hle]
  rw [h1, (due_filter h.ok.sorted _).1]
  have h2 := h.perm.filter (fun p => decide (p.2 ≤ now + 1))
  rw [List.filter_map] at h2
  exact h2
theorem WInv.next {now : Nat} {M : List Ent} {L : List Due} (h : WInv now M L) (hn : now < 2147483647) (hd : ∀ p ∈ L, now + 1 < p.2) : WInv (now + 1) M L := by
  refine ⟨h.ids, h.slots, h.perm, ?_, h.ok⟩
  intro _ e he
  have h1 := h.due hn e he
  have h2 := hd _ (h.perm.mem_iff.1 (List.mem_map.2 ⟨e, he, rfl⟩))
  have h3 : now + 1 < e.2.2 := h2
  rw [h1, Nat.max_eq_left (by omega), Nat.max_eq_left (by omega)]

/-- One number taken away, wherever it stands. -/
def mdrop (M : List Ent) (id : Int) : List Ent := M.filter fun e => e.1 ≠ id
theorem mdrop_hit {M : List Ent} (h : (M.map (·.1)).Nodup) {i : Nat} {e : Ent} (hi : M[i]? = some e) : mdrop M e.1 = M.eraseIdx i := (erase_filter (f := fun x : Ent => x.1) (a := e) h hi).symm
theorem mdrop_miss {M : List Ent} {id : Int} (h : ∀ e ∈ M, e.1 ≠ id) : mdrop M id = M := List.filter_eq_self.2 (fun e he => by simpa using h e he)
theorem mdrop_none {M : List Ent} {id : Int} : ∀ e ∈ mdrop M id, e.1 ≠ id := fun e he => by simpa using (List.mem_filter.1 he).2
theorem m_cases (M : List Ent) (id : Int) : (∀ e ∈ M, e.1 ≠ id) ∨ ∃ (i : Nat) (s a : Nat), M[i]? = some (id, s, a) := by
  by_cases h : ∃ e ∈ M, e.1 = id
  · obtain ⟨⟨x, s, a⟩, he, rfl⟩ := h
    obtain ⟨i, hi⟩ := List.mem_iff_getElem?.1 he
    exact .inr ⟨i, s, a, hi⟩
  · exact .inl (fun e he f => h ⟨e, he, f⟩)
theorem WInv.drop {now : Nat} {M : List Ent} {L : List Due} (h : WInv now M L) (id : Int) : WInv now (mdrop M id) (rdrop L id) := by
  rcases m_cases M id with hm | ⟨i, s, a, hi⟩
  · rw [mdrop_miss hm, (h.miss hm).2]; exact h
  · rw [mdrop_hit (e := (id, s, a)) h.ids hi]
    exact (h.hit hi).2.2
theorem WInv.drops {now : Nat} {M : List Ent} {L : List Due} (h : WInv now M L) (X : List Due) : WInv now (X.foldl (fun M p => mdrop M p.1) M) (X.foldl (fun L p => rdrop L p.1) L) := by
  induction X generalizing M L with
  | nil => exact h
  | cons a l ih => exact ih (h.drop a.1)
/-- The whole step: those due struck, the clock on. -/
theorem WInv.ticked {now : Nat} {M : List Ent} {L : List Due} (h : WInv now M L) (hn : now < 2147483647) : WInv (now + 1) ((rdue L (now + 1)).foldl (fun M p => mdrop M p.1) M) (rrest L (now + 1)) := by
  have h1 := h.drops (rdue L (now + 1))
  rw [drops_rest h.ok] at h1
  refine h1.next hn fun p hp => ?_
  rw [(due_filter h.ok.sorted _).2, List.mem_filter] at hp
  simpa using hp.2

end Go.Proofs.Ytlbdpofgcipjjaa
