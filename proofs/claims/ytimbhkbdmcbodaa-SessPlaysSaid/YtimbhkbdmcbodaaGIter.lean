/-
  'for k, v := range m' over a map that stands still: the entries come out one by one, each once, in whatever order.
-/
import Derived.Test.YtimbhkbdmcbodaaGMap
import Derived.Maps.RangeRun
namespace Go.Proofs.Ytimbhkbdmcbodaa
open Go.RowKit Go.MapKept
open Go.ChangeMaps (setBlock)
set_option linter.unusedVariables false

/-- A range under way: what the map holds, what has come out. -/
def GIter (P : Program) (k : TypeId) (w : World) (b r : Nat) (D vis : List (Value × Value)) : Prop :=
  ∃ es clock since seen c0, ∃ E : List MapEntry, w.heap[b]? = some (.map es clock) ∧ Stamped es clock ∧ KeysOk P k es ∧ es.toList.map (fun e => (e.key, e.val)) = D ∧ w.heap[r]? = some (.mapIter (some b) since seen c0) ∧ since ≤ c0 ∧ since ≤ clock ∧
    (∀ x ∈ es.toList, x.born < since) ∧ E.map (·.born) = seen.toList ∧ (∀ x ∈ E, x ∈ es.toList) ∧ (E.map (·.born)).Nodup ∧ E.map (fun e => (e.key, e.val)) = vis
section
variable {P : Program} {t k e : TypeId} {w w' : World} {b r : Nat} {D vis : List (Value × Value)}

theorem GIter.map (h : GIter P k w b r D vis) : GMap P k w b D := by
  obtain ⟨es, cl, since, seen, c0, E, hb, hs, hk, hD, _⟩ := h
  exact ⟨es, cl, hb, hs, hk, hD⟩
theorem GIter.mod {F : Nat → Prop} (h : GIter P k w b r D vis) (hm : Mod F w w') (hb : ¬ F b) (hr : ¬ F r) : GIter P k w' b r D vis := by
  obtain ⟨es, cl, since, seen, c0, E, h1, h2, h3, h4, h5, rest⟩ := h
  exact ⟨es, cl, since, seen, c0, E, hm.obj h1 hb, h2, h3, h4, hm.obj h5 hr, rest⟩
theorem GIter.start (h : GMap P k w b D) (ht : P.underlying t = some (.map k e)) :
    ∃ w', (Instr.range t (.map (some b))).run P w = .ok (.pointer (some ⟨w.heap.size, 0, none⟩)) w' ∧ GIter P k w' b w.heap.size D [] ∧ Mod (fun _ => False) w w' := by
  obtain ⟨es, cl, hb, hs, hk, rfl⟩ := h
  have hm : Mod (fun _ => False) w (w.alloc (.mapIter (some b) cl #[] cl)) := (Mod.refl _ _).alloc _
  exact ⟨_, run_range_map w t k e b es cl ht hb, ⟨es, cl, cl, #[], cl, [], hm.obj hb id, hs, hk, rfl, at10 w _, Nat.le_refl _, Nat.le_refl _, hs.1, rfl, (fun x hx => by simp at hx), .nil, rfl⟩, hm⟩
theorem entry_of_born : ∀ {l : List MapEntry}, (l.map (·.born)).Nodup → ∀ {x y : MapEntry}, x ∈ l → y ∈ l → x.born = y.born → x = y := by
  intro l hn x y hx hy he
  obtain ⟨i, hi⟩ := List.mem_iff_getElem?.1 hx
  obtain ⟨j, hj⟩ := List.mem_iff_getElem?.1 hy
  have hij : i = j := (List.getElem?_inj (by have := (List.getElem?_eq_some_iff.1 hi).1; simpa using this) hn).1 (by simp [hi, hj, he])
  subst hij
  rw [hi] at hj
  cases hj
  rfl
theorem gi_nodup {l : List MapEntry} (h : (l.map (·.born)).Nodup) : l.Nodup := List.Pairwise.of_map (·.born) (fun a b hab f => hab (by rw [f])) h
theorem nodup_le : ∀ {l m : List Nat}, l.Nodup → (∀ x ∈ l, x ∈ m) → l.length ≤ m.length
  | [], _, _, _ => by simp
  | a :: l, m, hn, hs => by
    rw [List.nodup_cons] at hn
    have h1 := nodup_le (m := m.erase a) hn.2 (fun x hx => (List.mem_erase_of_ne (fun f => hn.1 (by rw [← f]; exact hx))).2 (hs x (List.mem_cons_of_mem _ hx)))
    rw [List.length_erase_of_mem (hs a (by simp))] at h1
    have h2 : 0 < m.length := List.length_pos_of_mem (hs a (by simp))
    simp only [List.length_cons]
    omega
theorem perm_of_born {l m : List MapEntry} (hl : (l.map (·.born)).Nodup) (hm : (m.map (·.born)).Nodup) (h : ∀ x, x ∈ l ↔ x ∈ m) : l.Perm m := by
  have n1 : l.Nodup := gi_nodup hl
  have n2 : m.Nodup := gi_nodup hm
  exact (List.perm_ext_iff_of_nodup n1 n2).2 h
/-- One step: nothing is left, or an entry that has not come out yet. -/
theorem GIter.step (h : GIter P k w b r D vis) (ty : TypeId) :
    (vis.Perm D ∧ (Instr.next (.pointer (some ⟨r, 0, none⟩)) false ty).run P w = .ok (.tuple #[.bool false]) w) ∨
    ∃ x v w', (x, v) ∈ D ∧ (∀ p ∈ vis, p.1 ≠ x) ∧ (Instr.next (.pointer (some ⟨r, 0, none⟩)) false ty).run P w = .ok (.tuple #[.bool true, x, v]) w' ∧ GIter P k w' b r D (vis ++ [(x, v)]) ∧ vis.length < D.length ∧ Mod (fun j => j = r) w w' ∧ w'.heap.size = w.heap.size ∧
      (Instr.entry (.pointer (some ⟨r, 0, none⟩))).run P w' = .ok (.tuple #[x, v]) w' := by
  obtain ⟨es, cl, since, seen, c0, E, hb, hs, hk, rfl, hr, hsc, hsl, hold, hE, hEm, hEn, rfl⟩ := h
  have hne : b ≠ r := by intro f; subst f; rw [hb] at hr; cases hr
  have hsub : ∀ x ∈ es.toList, (seen.contains x.born = true ↔ x ∈ E) := fun x hx => by
    rw [Array.contains_iff_mem, ← Array.mem_toList_iff, ← hE, List.mem_map]
    constructor
    · rintro ⟨y, hy, he⟩
      have := entry_of_born hs.2.1 (hEm y hy) hx he
      rwa [← this]
    · exact fun hx' => ⟨x, hx', rfl⟩
  rcases run_next_at (P := P) w ty r b since c0 seen es cl hr hb hold hsc with ⟨h0, hrun⟩ | ⟨e0, he0, w1, hw1, hrun⟩
  · refine .inl ⟨?_, hrun⟩
    have hall : ∀ x ∈ es.toList, x ∈ E := fun x hx => by
      rw [← hsub x hx]
      have : leftOf es seen = #[] := Array.eq_empty_of_size_eq_zero h0
      unfold leftOf at this
      rw [Array.filter_eq_empty_iff] at this
      have := this x (by simpa using hx)
      simpa using this
    exact (perm_of_born hEn hs.2.1 (fun x => ⟨hEm x, hall x⟩)).map _
  · right
    have hmem : e0 ∈ es.toList ∧ e0 ∉ E := by
      unfold leftOf at he0
      simp only [Array.toList_filter, List.mem_filter] at he0
      refine ⟨he0.1, fun f => ?_⟩
      have h7 := (hsub e0 he0.1).2 f
      rw [h7] at he0
      exact absurd he0.2 (by simp)
    have hm1 : Mod (fun j => j = r) w (setBlock w1 r (.mapIter (some b) since (seen.push e0.born) cl)) := by
      rcases hw1 with rfl | rfl
      · exact setBlock_mod _ _ _
      · exact (Mod.drew (Mod.refl (fun j => j = r) w)).trans (setBlock_mod _ _ _)
    have hsz : (setBlock w1 r (.mapIter (some b) since (seen.push e0.born) cl)).heap.size = w.heap.size := by
      rw [size_setBlock]
      rcases hw1 with rfl | rfl <;> rfl
    have hrb : (setBlock w1 r (.mapIter (some b) since (seen.push e0.born) cl)).heap[r]? = some (.mapIter (some b) since (seen.push e0.born) cl) := heap_setBlock_self _ (by have := lt_of_block hr; rcases hw1 with rfl | rfl <;> exact this)
    have hbb := hm1.obj hb hne
    refine ⟨e0.key, e0.val, _, List.mem_map.2 ⟨e0, hmem.1, rfl⟩, ?_, hrun, ⟨es, cl, since, seen.push e0.born, cl, E ++ [e0], hbb, hs, hk, rfl, hrb, hsl, hsl, hold, by simp [hE], ?_, ?_, by simp⟩, ?_, hm1, hsz, ?_⟩
    · intro p hp f
      obtain ⟨y, hy, rfl⟩ := List.mem_map.1 hp
      have hyy := hEm y hy
      have : y = e0 := by
        obtain ⟨i, hi⟩ := List.mem_iff_getElem?.1 hyy
        obtain ⟨j, hj⟩ := List.mem_iff_getElem?.1 hmem.1
        have hij : i = j := (List.getElem?_inj (by have := (List.getElem?_eq_some_iff.1 hi).1; simpa using this) hs.2.2).1 (by simp only [List.getElem?_map, hi, hj, Option.map_some]; exact congrArg some f)
        subst hij
        rw [hi] at hj
        cases hj
        rfl
      exact hmem.2 (this ▸ hy)
    · intro y hy
      rcases List.mem_append.1 hy with h1 | h1
      · exact hEm y h1
      · simp at h1; subst h1; exact hmem.1
    · rw [List.map_append, List.nodup_append]
      refine ⟨hEn, by simp, ?_⟩
      intro a ha c hc
      simp at hc
      subst hc
      intro f
      obtain ⟨y, hy, he⟩ := List.mem_map.1 ha
      have := entry_of_born hs.2.1 (hEm y hy) hmem.1 (he.trans f)
      exact hmem.2 (this ▸ hy)
    · rw [List.length_map, List.length_map]
      have h9 := nodup_le (l := (e0 :: E).map (·.born)) (m := es.toList.map (·.born)) (List.nodup_cons.2 ⟨fun f => by
        obtain ⟨y, hy, he⟩ := List.mem_map.1 f
        exact hmem.2 (entry_of_born hs.2.1 (hEm y hy) hmem.1 he ▸ hy), hEn⟩) (fun x hx => by
        obtain ⟨y, hy, he⟩ := List.mem_map.1 hx
        refine List.mem_map.2 ⟨y, ?_, he⟩
        rcases List.mem_cons.1 hy with h8 | h8
        · exact h8 ▸ hmem.1
        · exact hEm y h8)
      simp only [List.length_map, List.length_cons] at h9
      omega
    · exact run_entry_at _ r b since seen es cl e0 hrb hbb hmem.1 hs.2.1
end

end Go.Proofs.Ytimbhkbdmcbodaa
