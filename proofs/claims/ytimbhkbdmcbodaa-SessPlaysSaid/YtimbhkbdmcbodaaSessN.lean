/-
  slices.SortedFunc over maps.Keys: the keys of a table, sorted.
-/
import Derived.Test.YtimbhkbdmcbodaaSessM
import Derived.Test.YtimbhkbdmcbodaaSortK
import Derived.Test.YtimbhkbdmcbodaaKeyShelf
namespace Go.Proofs.Ytimbhkbdmcbodaa
open Go.RowKit Go.MapKept Go.Shelf Go.Sort
set_option linter.unusedVariables false

/-! ### the order -/
def klt (x y : Key) : Prop := x.proto < y.proto ∨ (x.proto = y.proto ∧ (x.pt.ip < y.pt.ip ∨ (x.pt.ip = y.pt.ip ∧ x.pt.port < y.pt.port)))
instance (x y : Key) : Decidable (klt x y) := by unfold klt; infer_instance
theorem klt.irrefl (x : Key) : ¬ klt x x := by unfold klt; omega
theorem klt.trans {x y z : Key} (h : klt x y) (k : klt y z) : klt x z := by unfold klt at *; omega
theorem klt_total {x y : Key} (h1 : ¬ klt x y) (h2 : ¬ klt y x) : x = y := by
  unfold klt at h1 h2
  obtain ⟨a, b, c⟩ := x
  obtain ⟨a', b', c'⟩ := y
  simp only [Key.mk.injEq, Point.mk.injEq] at h1 h2 ⊢
  omega
theorem cmpI_cases (x y : Int) : (x < y ∧ cmpI x y = -1) ∨ (x = y ∧ cmpI x y = 0) ∨ (y < x ∧ cmpI x y = 1) := by
  unfold cmpI
  by_cases h : x < y
  · exact .inl ⟨h, by simp [h]⟩
  · by_cases h2 : y < x
    · exact .inr (.inr ⟨h2, by simp [h, h2]⟩)
    · exact .inr (.inl ⟨by omega, by simp [h, h2]⟩)
theorem cfk_lt (x y : Key) : (cfk x y < 0) ↔ klt x y := by
  unfold cfk klt
  rcases cmpI_cases x.proto y.proto with ⟨h, e⟩ | ⟨h, e⟩ | ⟨h, e⟩ <;> rcases cmpI_cases x.pt.ip y.pt.ip with ⟨h', e'⟩ | ⟨h', e'⟩ | ⟨h', e'⟩ <;> rcases cmpI_cases x.pt.port y.pt.port with ⟨h'', e''⟩ | ⟨h'', e''⟩ | ⟨h'', e''⟩ <;> rw [e, e', e''] <;> simp [orI] <;> omega
theorem ltOf_cfk : ltOf cfk = fun x y => decide (klt x y) := by
  funext x y
  unfold ltOf
  rw [decide_eq_decide]
  exact cfk_lt x y
theorem swo_cfk : SWO (ltOf cfk) := by
  rw [ltOf_cfk]
  refine ⟨fun x => by simpa using klt.irrefl x, fun x y z h k => by simp only [decide_eq_true_eq] at *; exact h.trans k, fun x y z h k => ?_⟩
  simp only [decide_eq_false_iff_not] at *
  unfold klt at *
  omega
theorem tot_cfk (x y : Key) (h : ltOf cfk x y = false) (k : ltOf cfk y x = false) : x = y := by
  rw [ltOf_cfk] at h k
  simp only [decide_eq_false_iff_not] at h k
  exact klt_total h k
/-- A list of keys, in order. -/
def kSort (l : List Key) : List Key := l.mergeSort fun x y => !decide (klt y x)
theorem kSort_perm (l : List Key) : (kSort l).Perm l := List.mergeSort_perm l _
theorem kSort_sorted (l : List Key) : (kSort l).Pairwise (fun x y => ¬ klt y x) := by
  have : (kSort l).Pairwise (fun x y => (!decide (klt y x)) = true) := by
    apply List.pairwise_mergeSort
    · intro a b c h1 h2
      simp only [Bool.not_eq_true', decide_eq_false_iff_not] at h1 h2 ⊢
      unfold klt at *
      omega
    · intro a b
      simp only [Bool.or_eq_true, Bool.not_eq_true', decide_eq_false_iff_not]
      unfold klt
      omega
  exact this.imp (fun h => by simpa using h)
theorem kSort_eq {l m : List Key} (h : l.Perm m) : kSort l = kSort m := by
  refine List.Perm.eq_of_pairwise (le := fun x y => ¬ klt y x) ?_ (kSort_sorted l) (kSort_sorted m) ((kSort_perm l).trans (h.trans (kSort_perm m).symm))
  intro a b _ _ h1 h2
  exact klt_total h2 h1
theorem perm_of_map {α β : Type} {f : α → β} (hf : ∀ x y, f x = f y → x = y) {l m : List α} (h : (l.map f).Perm (m.map f)) : l.Perm m := by
  classical
  refine List.perm_iff_count.2 fun a => ?_
  have h1 := List.perm_iff_count.1 h (f a)
  have h2 : ∀ l : List α, (l.map f).count (f a) = l.count a := fun l => by
    induction l with
    | nil => simp
    | cons b l ih =>
      simp only [List.map_cons, List.count_cons, ih]
      congr 1
      by_cases hb : b = a
      · subst hb; simp
      · have : ¬ f b = f a := fun e => hb (hf _ _ e)
        simp [hb, this]
  rwa [h2, h2] at h1

/-! ### the library's functions -/
theorem enterAll1 : ∀ args w, (callFunc 32 args).run Try.prog w = .ok (.enter 32 args) w := enters_of Try.func32 (by kernel_rfl) rfl
theorem enterKeys1 : ∀ args w, (callFunc 46 args).run Try.prog w = .ok (.enter 46 args) w := enters_of Try.func46 (by kernel_rfl) rfl
theorem sortKeys_ok {w : World} {base : Nat} {e : TypeId} {v : Value} {l : List Key} (h : w.ownsRow base e 3 v l.length (l.flatMap Key.cells)) (hz : l.length < 4611686018427387904) :
    Calls Try.prog 45 #[v, .func (.func 32) #[] #[]] w fun e w' => e = .returned (.tuple #[]) ∧ Mod (fun j => v.ownBlock = some j) w w' ∧
      ∃ A c, v = .slice A l.length c ∧ RowAt (fun b => base ≤ b) w' A ((kSort l).flatMap Key.cells) := by
  have := sort_owns Key.cells 3 Key.cells_len sortKey Try.isAgg31 Try.sizeOf31 Key.one swo_cfk tot_cfk 32 enterAll1 (fun x y w => closureK_ok x y w) h hz
  simp only [ltOf_cfk] at this
  exact this
set_option maxHeartbeats 1000000 in
/-- The keys of a map, sorted. -/
theorem sortedKeys_ok {w : World} {b : Nat} {D : List (Value × Value)} (hown : GMap Try.prog 31 w b D) (K : List Key) (hD : D.map (·.1) = K.map Key.val) (hl : K.length ≤ 1000000) :
    Calls Try.prog 30 #[.func (.func 46) #[] #[.pointer (some ⟨w.heap.size, 0, none⟩)], .func (.func 32) #[] #[]] (w.alloc (.cells #[.map (some b)] 61)) fun e w' =>
      ∃ A c, e = .returned (.slice A K.length c) ∧ RowAt (fun j => w.heap.size < j) w' A ((kSort K).flatMap Key.cells) ∧ Mod No w w' := by
  have hbl := hown.lt
  have hlen : D.length = K.length := by simpa using congrArg List.length hD
  have hseq : SeqGives Fence.wide 3 Try.prog 46 #[.pointer (some ⟨w.heap.size, 0, none⟩)] Key.val (fun ss => (ss.map Key.val).Perm (D.map (·.1))) D.length (w.alloc (.cells #[.map (some b)] 61)) :=
    keysK_gives Fence.wide 3 trivial rfl (by omega) w.heap.size b D (fun p hp => by
      have : p.1 ∈ K.map Key.val := hD ▸ List.mem_map_of_mem hp
      obtain ⟨x, _, hx⟩ := List.mem_map.1 this
      exact ⟨x, hx.symm⟩) _ (by simp) (by simp) (hown.of_eq (Below.heap_alloc _ _ b hbl))
  have hcol := (callsIn_wide (n := 5)).1 (collectK Fence.wide 5 trivial trivial rfl (by omega) _ _ trivial enterKeys1 _ _ (by omega) _ hseq)
  have HC := Lib.hid hcol
  clear hcol hseq
  go_enter Try.func30, Try.ntmps30
  go_wp2_with (go_at_call 44; refine HC.out.mono ?_; rintro e w1 ⟨v, ss, rfl, hS, hrow, hb⟩)
  have hss : ss.Perm K := perm_of_map (fun _ _ => Key.val_inj) (by rw [← hD]; exact hS)
  have HS := Lib.hid hss
  have hsort := sortKeys_ok hrow (by have := hss.length_eq; omega)
  have HO := Lib.hid hsort
  have HB := Lib.hid hb
  have HW := Lib.hid hrow
  clear hss hsort hb hS hrow
  go_wp2_with (go_at_call 45; refine HO.out.mono ?_; rintro e w2 ⟨rfl, hm, A, c, hv, hr⟩)
  go_ret
  subst hv
  have hss := HS.out
  rw [kSort_eq hss] at hr
  rw [hss.length_eq] at *
  refine ⟨A, c, rfl, hr.mono (fun j _ hj => by simp at hj; omega), ?_⟩
  have hb := HB.out
  have hm1 : Mod No w w1 := ((Mod.refl No w).alloc _).trans (Mod.of_below hb)
  refine hm1.trans' hm (fun i hi hj => ?_)
  have := (HW.out.lt i hj).1
  simp at this
  omega

end Go.Proofs.Ytimbhkbdmcbodaa
