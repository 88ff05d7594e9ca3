/-
  What is due, in order: lists of numbers and ticks. No program in sight.
-/
namespace Go.Proofs.Ytlbdpofgcipjjaa
set_option linter.unusedVariables false

abbrev Due := Int × Nat
def dlt (a b : Due) : Prop := a.2 < b.2 ∨ (a.2 = b.2 ∧ a.1 < b.1)
instance (a b : Due) : Decidable (dlt a b) := inferInstanceAs (Decidable (_ ∨ _))
theorem dlt.trans {a b c : Due} (h : dlt a b) (k : dlt b c) : dlt a c := by unfold dlt at *; omega
theorem dlt.irrefl (a : Due) : ¬ dlt a a := by unfold dlt; omega
theorem dlt_or {a b : Due} (h : a.1 ≠ b.1) : dlt a b ∨ dlt b a := by unfold dlt; omega
/-- In order, each number once. -/
structure DOk (L : List Due) : Prop where
  sorted : L.Pairwise dlt
  ids : (L.map (·.1)).Nodup
def rdrop (L : List Due) (id : Int) : List Due := L.filter fun p => p.1 ≠ id
def rins : List Due → Due → List Due
  | [], d => [d]
  | a :: l, d => if dlt a d then a :: rins l d else d :: a :: l
def rset (L : List Due) (id : Int) (at_ : Nat) : List Due := rins (rdrop L id) (id, at_)
def rhas (L : List Due) (id : Int) : Bool := L.any fun p => p.1 = id
def rat (L : List Due) (id : Int) : Nat := ((L.find? fun p => p.1 = id).map (·.2)).getD 0
def rdue (L : List Due) (now : Nat) : List Due := L.takeWhile fun p => p.2 ≤ now
def rrest (L : List Due) (now : Nat) : List Due := L.dropWhile fun p => p.2 ≤ now

theorem DOk.nil : DOk [] := ⟨.nil, .nil⟩
theorem DOk.drop {L : List Due} (h : DOk L) (id : Int) : DOk (rdrop L id) :=
  ⟨h.sorted.filter _, h.ids.sublist (List.filter_sublist.map _)⟩
theorem mem_rdrop {L : List Due} {id : Int} {p : Due} : p ∈ rdrop L id ↔ p ∈ L ∧ p.1 ≠ id := by simp [rdrop]
theorem mem_rins {L : List Due} {d p : Due} : p ∈ rins L d ↔ p = d ∨ p ∈ L := by
  induction L with
  | nil => simp [rins]
  | cons a l ih =>
    unfold rins
    split
    · simp [ih]; constructor <;> (rintro (h | h | h) <;> simp [h])
    · simp
theorem rins_sorted {L : List Due} {d : Due} (h : L.Pairwise dlt) (hd : ∀ p ∈ L, p.1 ≠ d.1) : (rins L d).Pairwise dlt := by
  induction L with
  | nil => simp [rins]
  | cons a l ih =>
    obtain ⟨h1, h2⟩ := List.pairwise_cons.1 h
    unfold rins
    split
    · rename_i had
      refine List.pairwise_cons.2 ⟨fun p hp => ?_, ih h2 (fun p hp => hd p (List.mem_cons_of_mem _ hp))⟩
      rcases mem_rins.1 hp with rfl | hp
      · exact had
      · exact h1 p hp
    · rename_i had
      have hda : dlt d a := by
        rcases dlt_or (hd a (List.mem_cons_self ..)) with h3 | h3
        · exact absurd h3 had
        · exact h3
      refine List.pairwise_cons.2 ⟨fun p hp => ?_, h⟩
      rcases List.mem_cons.1 hp with rfl | hp
      · exact hda
      · exact hda.trans (h1 p hp)
theorem rins_ids {L : List Due} {d : Due} (h : (L.map (·.1)).Nodup) (hd : ∀ p ∈ L, p.1 ≠ d.1) : ((rins L d).map (·.1)).Nodup := by
  induction L with
  | nil => simp [rins]
  | cons a l ih =>
    simp only [List.map_cons, List.nodup_cons] at h
    unfold rins
    split
    · simp only [List.map_cons, List.nodup_cons]
      refine ⟨fun hm => ?_, ih h.2 (fun p hp => hd p (List.mem_cons_of_mem _ hp))⟩
      obtain ⟨p, hp, e⟩ := List.mem_map.1 hm
      rcases mem_rins.1 hp with rfl | hp
      · exact hd a (List.mem_cons_self ..) e.symm
      · exact h.1 (List.mem_map.2 ⟨p, hp, e⟩)
    · simp only [List.map_cons, List.nodup_cons]
      refine ⟨fun hm => ?_, h⟩
      obtain ⟨p, hp, e⟩ := List.mem_map.1 (show d.1 ∈ ((a :: l).map (·.1)) by simpa using hm)
      exact hd p hp e
theorem DOk.set {L : List Due} (h : DOk L) (id : Int) (at_ : Nat) : DOk (rset L id at_) :=
  ⟨rins_sorted (h.drop id).sorted (fun p hp => (mem_rdrop.1 hp).2), rins_ids (h.drop id).ids (fun p hp => (mem_rdrop.1 hp).2)⟩
theorem mem_rset {L : List Due} {id : Int} {at_ : Nat} {p : Due} : p ∈ rset L id at_ ↔ p = (id, at_) ∨ (p ∈ L ∧ p.1 ≠ id) := by
  rw [rset, mem_rins, mem_rdrop]
theorem rins_length (L : List Due) (d : Due) : (rins L d).length = L.length + 1 := by
  induction L with
  | nil => rfl
  | cons a l ih => unfold rins; split <;> simp [ih]
theorem rhas_iff {L : List Due} {id : Int} : rhas L id = true ↔ ∃ at_, (id, at_) ∈ L := by
  simp only [rhas, List.any_eq_true, decide_eq_true_eq]
  constructor
  · rintro ⟨⟨i, a⟩, hp, rfl⟩; exact ⟨a, hp⟩
  · rintro ⟨a, hp⟩; exact ⟨_, hp, rfl⟩
/-- What is due stands ahead. -/
theorem due_filter {L : List Due} (h : L.Pairwise dlt) (now : Nat) : rdue L now = L.filter (fun p => p.2 ≤ now) ∧ rrest L now = L.filter (fun p => ¬ p.2 ≤ now) := by
  induction L with
  | nil => exact ⟨rfl, rfl⟩
  | cons a l ih =>
    obtain ⟨h1, h2⟩ := List.pairwise_cons.1 h
    obtain ⟨i1, i2⟩ := ih h2
    by_cases ha : a.2 ≤ now
    · simp only [rdue, rrest, List.takeWhile_cons, List.dropWhile_cons, ha, decide_true, if_true, List.filter_cons] at i1 i2 ⊢
      simp [i1, i2]
    · have hall : ∀ p ∈ l, ¬ p.2 ≤ now := fun p hp => by
        have := h1 p hp
        unfold dlt at this
        omega
      simp only [rdue, rrest, List.takeWhile_cons, List.dropWhile_cons, ha, decide_false, List.filter_cons]
      simp
      refine ⟨fun p hp hq => by have := hall (p, hp) hq; simpa using this, ?_⟩
      symm
      apply List.filter_eq_self.2
      intro p hp
      have := hall p hp
      simp; omega

/-- Two lists in order with the same members are one. -/
theorem sorted_eq : ∀ {l m : List Due}, l.Pairwise dlt → m.Pairwise dlt → (∀ p, p ∈ l ↔ p ∈ m) → l = m
  | [], [], _, _, _ => rfl
  | [], b :: m, _, _, h => absurd ((h b).2 (List.mem_cons_self ..)) (by simp)
  | a :: l, [], _, _, h => absurd ((h a).1 (List.mem_cons_self ..)) (by simp)
  | a :: l, b :: m, hl, hm, h => by
    obtain ⟨h1, h2⟩ := List.pairwise_cons.1 hl
    obtain ⟨k1, k2⟩ := List.pairwise_cons.1 hm
    have hab : a = b := by
      rcases List.mem_cons.1 ((h a).1 (List.mem_cons_self ..)) with e | e
      · exact e
      · rcases List.mem_cons.1 ((h b).2 (List.mem_cons_self ..)) with f | f
        · exact f.symm
        · exact absurd ((k1 a e).trans (h1 b f)) (dlt.irrefl b)
    subst hab
    congr 1
    refine sorted_eq h2 k2 fun p => ?_
    constructor
    · intro hp
      rcases List.mem_cons.1 ((h p).1 (List.mem_cons_of_mem _ hp)) with e | e
      · subst e; exact absurd (h1 p hp) (dlt.irrefl p)
      · exact e
    · intro hp
      rcases List.mem_cons.1 ((h p).2 (List.mem_cons_of_mem _ hp)) with e | e
      · subst e; exact absurd (k1 p hp) (dlt.irrefl p)
      · exact e
theorem DOk.rest {L : List Due} (h : DOk L) (now : Nat) : DOk (rrest L now) :=
  ⟨h.sorted.sublist (List.dropWhile_sublist _), h.ids.sublist ((List.dropWhile_sublist _).map _)⟩
/-- What is struck one by one is struck. -/
theorem drops_rest {L : List Due} (h : DOk L) (now : Nat) : (rdue L now).foldl (fun M p => rdrop M p.1) L = rrest L now := by
  have key : ∀ (X M : List Due), X.foldl (fun M p => rdrop M p.1) M = M.filter (fun p => ∀ q ∈ X, p.1 ≠ q.1) := by
    intro X
    induction X with
    | nil => intro M; exact (List.filter_eq_self.2 (fun p _ => by simp)).symm
    | cons a l ih =>
      intro M
      rw [List.foldl_cons, ih, rdrop, List.filter_filter]
      apply List.filter_congr
      intro p _
      rw [Bool.eq_iff_iff]
      simp only [Bool.and_eq_true, decide_eq_true_eq, List.forall_mem_cons]
      exact and_comm
  rw [key, (due_filter h.sorted now).1, (due_filter h.sorted now).2]
  apply List.filter_congr
  intro p hp
  rw [Bool.eq_iff_iff]
  simp only [decide_eq_true_eq, List.mem_filter]
  constructor
  · intro hq hle
    exact hq p ⟨hp, by simpa using hle⟩ rfl
  · rintro hn q ⟨hq, hle⟩ he
    have : p = q := by
      obtain ⟨i, hi⟩ := List.mem_iff_getElem?.1 hp
      obtain ⟨j, hj⟩ := List.mem_iff_getElem?.1 hq
      have hij : i = j := by
        refine (List.getElem?_inj (by have := (List.getElem?_eq_some_iff.1 hi).1; simpa using this) h.ids).1 ?_
        simp [hi, hj, he]
      subst hij
      rw [hi] at hj
      cases hj
      rfl
    subst this
    exact hn (by simpa using hle)

end Go.Proofs.Ytlbdpofgcipjjaa
