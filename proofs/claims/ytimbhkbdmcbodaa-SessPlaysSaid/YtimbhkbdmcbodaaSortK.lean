/-
  slices.SortFunc at elements of k cells, in the words of these seats: a row that the call owns is sorted in its place. Any program.
-/
import Derived.Test.YtimbhkbdmcbodaaLib
import Derived.Shelf.SlSortCmp.NoneTotal
namespace Go.Proofs.Ytimbhkbdmcbodaa
open Go.Shelf Go.RowKit Go.Lib Go.Sort
set_option linter.unusedVariables false
section
variable {P : Program} {ρ : Ren} {α : Type} [Inhabited α]

theorem sw_mod (enc : α → List Value) (k : Nat) (w : World) (blk off m : Nat) (d : Array α) (os : Array Obj) : Mod (fun j => j = blk) w (sortWorldK enc k w blk off m d os) := by
  unfold sortWorldK putRowK putRow mapBlock grow Sort.ahead
  refine ⟨rfl, rfl, rfl, by simp, fun b hb hne => ?_⟩
  have h' : ¬ blk = b := fun e => hne e.symm
  show (w.heap.modify blk _ ++ os)[b]? = _
  rw [Array.getElem?_append_left (by simpa using hb), Array.getElem?_modify, if_neg h']
theorem flatK_list (enc : α → List Value) (k : Nat) (hk : ∀ x, (enc x).length = k) (l : List α) : flatK enc k l.toArray = (l.flatMap enc).toArray := by
  apply Array.ext_getElem?
  intro t
  have hl := flat_length enc k hk l
  by_cases ht : t < l.length * k
  · have k0 : 0 < k := by rcases Nat.eq_zero_or_pos k with h | h; · subst h; simp at ht
                          · exact h
    have hi : t / k < l.length := (Nat.div_lt_iff_lt_mul k0).2 ht
    have hj : t % k < k := Nat.mod_lt _ k0
    have h1 := flat_at enc k hk l (t / k) (t % k) l[t / k] (List.getElem?_eq_getElem hi) hj
    rw [Nat.div_add_mod' t k] at h1
    have h0 : (l.flatMap enc).toArray[t]? = (enc l[t / k])[t % k]? := by rw [← h1]; simp
    rw [h0]
    have h2 := get_flatK enc k l.toArray t (by simpa using ht)
    have h3 : t < (flatK enc k l.toArray).size := by simpa using ht
    rw [getElem!_pos _ t h3] at h2
    rw [Array.getElem?_eq_getElem h3, h2]
    have h4 : l.toArray[t / k]! = l[t / k] := by rw [getElem!_pos _ _ (by simpa using hi)]; simp
    rw [h4, List.getElem?_eq_getElem (by rw [hk]; exact hj), getElem!_pos _ _ (by rw [hk]; exact hj)]
  · rw [Array.getElem?_eq_none (by simp; omega), Array.getElem?_eq_none (by simp [hl]; omega)]
theorem holdsK_owns (enc : α → List Value) (k : Nat) (hk : ∀ x, (enc x).length = k) {w : World} {base : Nat} {e : TypeId} {g c : Nat} {l : List α} (h : w.ownsRow base e k (.slice (some ⟨g, 0, none⟩) l.length c) l.length (l.flatMap enc)) : HoldsK enc k w g 0 l.toArray := by
  intro j hj
  have hj' : j < l.length * k := by simpa using hj
  have h1 := h.cellAt j hj'
  rw [Nat.zero_add]
  refine ⟨?_, h.frozenAt j⟩
  rw [h1, flatK_list enc k hk l]
  have hl := flat_length enc k hk l
  rw [getElem!_pos _ j (by simp [hl]; exact hj')]
  simp
/-- What the sort leaves. -/
theorem sort_owns (enc : α → List Value) (k : Nat) (hk : ∀ x, (enc x).length = k) {cf : α → α → Int} (L : SlLaysF0.n6 P ρ) (aE : ∀ w, (isAgg (ρ.t 24)).run P w = .ok true w) (zE : ∀ w, (Go.sizeOf (ρ.t 24)).run P w = .ok k w) (h1 : ∀ x, ∀ v ∈ enc x, v.oneCell' = true)
    (hO : SWO (ltOf cf)) (hT : ∀ x y, (ltOf cf) x y = false → (ltOf cf) y x = false → x = y) (g : Nat) (eg : ∀ args w, (callFunc g args).run P w = .ok (.enter g args) w)
    (hcmp : ∀ x y w, Calls P g #[.agg (enc x).toArray, .agg (enc y).toArray] w fun e w' => e = .returned (.int .i64 (cf x y)) ∧ ∃ q os', w' = grow (w.drewN q) os')
    {w : World} {base : Nat} {e : TypeId} {v : Value} {l : List α} (h : w.ownsRow base e k v l.length (l.flatMap enc)) (hz : l.length < 4611686018427387904) :
    Calls P (ρ.f 6) #[v, .func (.func g) #[] #[]] w fun e w' => e = .returned (.tuple #[]) ∧ Mod (fun j => v.ownBlock = some j) w w' ∧
      ∃ A c, v = .slice A l.length c ∧ RowAt (fun b => base ≤ b) w' A ((l.mergeSort fun x y => !(ltOf cf) y x).flatMap enc) := by
  rcases h.2 with ⟨rfl, h0⟩ | ⟨b, cap, cur, rfl, hb, hg, hn, hcap, hsz, htk⟩
  · have hl : l = [] := List.eq_nil_of_length_eq_zero h0
    subst hl
    refine (AnyF.slices_SortFunc_none L none 0 _ w).mono ?_
    rintro e w' ⟨rfl, rfl⟩
    exact ⟨rfl, Mod.refl _ _, none, 0, rfl, .inl (by simp)⟩
  · have hH := holdsK_owns enc k hk h
    have hlt : b < w.heap.size := by
      rw [Array.getElem?_eq_some_iff] at hg
      exact hg.1
    have hc : CmpLays P g #[] enc k cf b 0 l.toArray.size w := fun _ _ _ _ x y => hcmp x y _
    have hcon := AnyQ.slices_SortFunc_total L k aE zE enc hk h1 cf hO g #[] b 0 cap l.toArray w eg hc hH hlt (by simpa using hz) hT
    simp only [List.size_toArray] at hcon
    refine hcon.mono ?_
    rintro e w' ⟨rfl, m, os, rfl⟩
    refine ⟨rfl, (sw_mod enc k w b 0 m _ os).mono (fun j hj => by subst hj; rfl), _, cap, rfl, .inr ⟨b, 0, rfl, hb, fun j u hj => ?_⟩⟩
    have hlen : (l.mergeSort fun x y => !(ltOf cf) y x).length = l.length := List.length_mergeSort _
    have h2 := holdsK_sortWorldK_c enc k w b 0 l.toArray (l.mergeSort fun x y => !(ltOf cf) y x).toArray m os hH hlt (by simp)
    have hjl := (List.getElem?_eq_some_iff.1 hj).1
    have h3 := h2 j (by
      rw [flatK_list enc k hk]
      simpa using hjl)
    rw [flatK_list enc k hk, getElem!_pos _ j (by simpa using hjl)] at h3
    rw [h3.1]
    have h4 := (List.getElem?_eq_some_iff.1 hj).2
    simp [h4]
end

end Go.Proofs.Ytimbhkbdmcbodaa
