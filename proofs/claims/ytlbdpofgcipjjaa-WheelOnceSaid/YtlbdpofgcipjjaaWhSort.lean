/-
  What was drawn from a map in whatever order, sorted, is what is due. No program in sight.
-/
import Derived.Test.YtlbdpofgcipjjaaWhM
namespace Go.Proofs.Ytlbdpofgcipjjaa
set_option linter.unusedVariables false

theorem dlt_total {a b : Due} (h1 : ¬ dlt a b) (h2 : ¬ dlt b a) : a = b := by
  unfold dlt at h1 h2
  obtain ⟨a1, a2⟩ := a
  obtain ⟨b1, b2⟩ := b
  simp only [Prod.mk.injEq] at h1 h2 ⊢
  omega
theorem msort_eq {l m : List Due} (hl : l.Perm m) (hm : m.Pairwise dlt) : l.mergeSort (fun x y => !decide (dlt y x)) = m := by
  have hp : (l.mergeSort (fun x y => !decide (dlt y x))).Perm m := (List.mergeSort_perm l _).trans hl
  have hmn : m.Nodup := hm.imp (fun {a b} h => fun (f : a = b) => dlt.irrefl b (by rw [f] at h; exact h))
  have hs : (l.mergeSort (fun x y => !decide (dlt y x))).Pairwise (fun x y => (!decide (dlt y x)) = true) := by
    apply List.pairwise_mergeSort
    · intro a b c h1 h2
      simp only [Bool.not_eq_true', decide_eq_false_iff_not] at h1 h2 ⊢
      intro h3
      by_cases h4 : dlt b c
      · exact h1 (h4.trans h3)
      · have := dlt_total h4 h2
        subst this
        exact h1 h3
    · intro a b
      simp only [Bool.or_eq_true, Bool.not_eq_true', decide_eq_false_iff_not]
      by_cases h : dlt b a
      · exact .inr (fun h2 => dlt.irrefl a (h2.trans h))
      · exact .inl h
  have hsn := hp.nodup_iff.2 hmn
  refine sorted_eq ?_ hm (fun p => hp.mem_iff)
  refine (hs.and hsn).imp (fun {a b} h => ?_)
  obtain ⟨h1, h2⟩ := h
  simp only [Bool.not_eq_true', decide_eq_false_iff_not] at h1
  by_cases h3 : dlt a b
  · exact h3
  · exact absurd (dlt_total h3 h1) h2
/-- The range's way through a slot, in whatever order, what is due of it sorted: what is due. -/
theorem tick_sort {now : Nat} {M : List Ent} {L : List Due} (h : WInv now M L) (hn : now < 2147483647) {vis : List Due} (hv : vis.Perm ((slotE ((now + 1) % 64) M).map eDue)) :
    (vis.filter (fun p => p.2 ≤ now + 1)).mergeSort (fun x y => !decide (dlt y x)) = rdue L (now + 1) := by
  refine msort_eq ?_ (h.ok.sorted.sublist (List.takeWhile_sublist _))
  have h1 := hv.filter (fun p => decide (p.2 ≤ now + 1))
  rw [List.filter_map] at h1
  exact h1.trans (h.tick hn)

end Go.Proofs.Ytlbdpofgcipjjaa
