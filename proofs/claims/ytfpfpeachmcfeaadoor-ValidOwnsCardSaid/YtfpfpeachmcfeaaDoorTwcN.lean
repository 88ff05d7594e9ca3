/-
  slices.Clone of numbers (printed by genclone.py); twice.
-/
import Derived.Test.YtfpfpeachmcfeaaDoorCompN
import Derived.Lib.SliceRun
namespace Go.Proofs.YtfpfpeachmcfeaaDoor
open Go.RowKit
set_option linter.unusedVariables false

theorem infoKN32 : (Tryd.prog.info? 22).map (fun i => (i.zero, i.size, i.bytes)) = some (some (.int .u32 0), 1, 4) := by kernel_rfl
set_option maxRecDepth 100000 in
theorem clone_okN32 {S : Nat → Prop} {w : World} {A : Option Addr} {n c : Nat} (cs : List Value) (hrow : RowAt S w A cs) (hl : cs.length = n * 1) (h1 : ∀ u ∈ cs, u.oneCell' = true) (hn : n ≤ 100000000) :
    Calls Tryd.prog 59 #[.slice A n c] w fun e w' => ∃ v, e = .returned v ∧ w'.ownsRow w.heap.size 22 1 v n cs ∧ Mod No w w' := by
  cases A with
  | none =>
    have hcs : cs = [] := by
      rcases hrow with h | ⟨b, o, e, _⟩
      · exact h
      · cases e
    have hn0 : n = 0 := by rw [hcs] at hl; simp at hl; omega
    subst hcs
    subst hn0
    clear hrow hl h1 hn
    have hq : ∀ W, (binOp .eql 26 (.slice none 0 c) (.slice none 0 0)).run Tryd.prog W = .ok (.bool true) W := fun W => Lib.run_eql_slice_nil W 26 _ none 0 c 0 0 Tryd.underlying26
    go_enter Tryd.func59, Tryd.ntmps59
    go_wp2
    go_ret
    exact ⟨_, rfl, ⟨rfl, .inl ⟨rfl, rfl⟩⟩, Mod.refl _ _⟩
  | some ad =>
    have hq : ∀ W, (binOp .eql 26 (.slice (some ad) n c) (.slice none 0 0)).run Tryd.prog W = .ok (.bool false) W := fun W => Lib.run_eql_slice_nil W 26 _ (some ad) n c 0 0 Tryd.underlying26
    obtain ⟨i0, hi, hz0, hz1, hz2⟩ := info_parts infoKN32
    have hr1 := hrow.keeps (((Mod.refl No w).alloc (.cells #[] 22)).keeps (fun _ _ _ f => f))
    have ho : (w.alloc (.cells #[] 22)).ownsRow w.heap.size 22 1 (.slice (some ⟨w.heap.size, 0, none⟩) 0 0) 0 [] :=
      ⟨rfl, .inr ⟨w.heap.size, 0, #[], rfl, Nat.le_refl _, at10 w _, Nat.le_refl _, by decide, rfl, rfl⟩⟩
    obtain ⟨v2, w2, hrun, ho2, hg2, hb2⟩ := run_append_row (P := Tryd.prog) (w.alloc (.cells #[] 22)) w.heap.size 26 26 22 i0 _ 1 4 Tryd.underlying26 hi hz0 hz1 hz2 (by simp [Value.cells]) (by decide) _ _ _ ho (some ad) n c cs hr1 hl h1 (by unfold maxLen; omega) (by omega) (by simp)
    rw [Nat.zero_add, List.nil_append] at ho2
    have hm2 : Mod No w w2 := ((Mod.refl No w).alloc (.cells #[] 22)).trans' (F := No) (G := fun b => b = w.heap.size) (Mod.grown (Mod.refl _ _) hg2 (fun q hq => .inr (by simpa [Value.ownBlock] using hq.symm))) (fun i hi hg => by omega)
    have HF := Lib.hid (And.intro ho2 hm2)
    clear hrow hl h1 hr1 ho ho2 hg2 hb2 hm2 hi hz0 hz1 hz2
    go_enter Tryd.func59, Tryd.ntmps59
    go_wp2_with (at_builtin; refine Lib.wpList_append_run _ (by rfl) _ _ _ _ (by rfl) _ _ (by rfl) (by rfl) _ _ hrun ?_)
    go_ret
    exact ⟨_, rfl, HF.out.1, HF.out.2⟩

theorem infoKPr : (Tryd.prog.info? 49).map (fun i => (i.zero, i.size, i.bytes)) = some (some (.agg #[.int .u32 0, .int .u32 0]), 2, 8) := by kernel_rfl
set_option maxRecDepth 100000 in

/-! ### apart, plain -/
theorem at_le {l : List Nat} (h : l.Pairwise (· ≤ ·)) {p q : Nat} (hpq : p < q) (hq : q < l.length) : At l p ≤ At l q := by
  have h1 := At_get (m := l) (p := p) (by omega)
  have h2 := At_get hq
  rw [List.getElem?_eq_getElem (by omega)] at h1
  rw [List.getElem?_eq_getElem hq] at h2
  simp only [Option.some.injEq] at h1 h2
  rw [← h1, ← h2]
  exact List.pairwise_iff_getElem.1 h p q (by omega) hq hpq
theorem apart_nodup {l : List Nat} (h : l.Pairwise (· ≤ ·)) : Apart l l.length ↔ l.Nodup := by
  constructor
  · intro ha
    refine List.pairwise_iff_getElem.2 fun p q hp hq hpq => ?_
    have e1 := At_get hp
    have e2 := At_get hq
    rw [List.getElem?_eq_getElem hp] at e1
    rw [List.getElem?_eq_getElem hq] at e2
    simp only [Option.some.injEq] at e1 e2
    have h1 := ha q (by omega) hq
    have h2 := at_le h (p := q - 1) (q := q) (by omega) hq
    rw [e1, e2]
    by_cases hp : p = q - 1
    · subst hp; omega
    · have h3 := at_le h (p := p) (q := q - 1) (by omega) (by omega)
      omega
  · intro hd j h0 hj he
    have e1 := At_get hj
    have e2 := At_get (m := l) (p := j - 1) (by omega)
    rw [List.getElem?_eq_getElem hj] at e1
    rw [List.getElem?_eq_getElem (by omega)] at e2
    simp only [Option.some.injEq] at e1 e2
    have := List.pairwise_iff_getElem.1 hd (j - 1) j (by omega) hj (by omega)
    exact this (by rw [e1, e2, he])

/-! ### twice -/
/-- Compact, at a row or at nothing. -/
theorem compactAny_ok {base : Nat} {w : World} {v : Value} {l : List Nat} (h : OwnN base w v l) (hl : l.length ≤ 1000000) :
    Calls Tryd.prog 58 #[v] w fun e w' => ∃ (A : Option Addr) (k c : Nat), e = .returned (.slice A k c) ∧ Mod (fun b => v.ownBlock = some b) w w' ∧ k ≤ 1000000 ∧ (k = l.length ↔ Apart l l.length) := by
  rcases h.cases with ⟨rfl, rfl⟩ | ⟨g, cap, rfl, hb⟩
  · clear h hl
    go_enter Tryd.func58, Tryd.ntmps58
    go_wp2
    go_ret
    exact ⟨none, 0, 0, rfl, Mod.refl _ _, by omega, ⟨fun _ j h0 h1 => by simp at h1, fun _ => rfl⟩⟩
  · refine (compact_ok h rfl hl).mono ?_
    rintro e w' ⟨k, rfl, hm, hk, hiff⟩
    exact ⟨_, k, cap, rfl, hm.mono (fun b hb => by rw [hb]; rfl), by omega, hiff⟩
theorem cloneN_ok {S : Nat → Prop} {w : World} {A : Option Addr} {c : Nat} (l : List Nat) (hrow : RowAt S w A (numCells l)) (hl : l.length ≤ 1000000) :
    Calls Tryd.prog 59 #[.slice A l.length c] w fun e w' => ∃ v, e = .returned v ∧ OwnN w.heap.size w' v l ∧ Mod No w w' :=
  clone_okN32 (numCells l) hrow (by rw [numCells_length]; omega) (by intro u hu; unfold numCells at hu; obtain ⟨x, _, rfl⟩ := List.mem_map.1 hu; rfl) (by omega)
set_option maxHeartbeats 2000000 in
theorem twice_ok {A : Option Addr} {c n : Nat} (L : List Nat) (w : World) (hx : RowAt (fun b => b < w.heap.size) w A (numCells L)) (hn : n = L.length) (h12 : L.length ≤ 12) :
    Calls Tryd.prog 41 #[.slice A n c] w fun e w' => e = .returned (.bool (!decide L.Nodup)) ∧ Mod No w w' := by
  subst hn
  have HS := Lib.hid (sortedVals_ok (A := A) (c := c) L w hx h12)
  have HV := Lib.hid (valuesFn_ok (A := A) (n := L.length) (c := c) w)
  have HCl := Lib.hid (fun S w A c l => @cloneN_ok S w A c l)
  have HCo := Lib.hid (fun base w v l => @compactAny_ok base w v l)
  obtain ⟨B, hB⟩ : ∃ B, B = L.Nodup := ⟨_, rfl⟩
  obtain ⟨QQ, hQQ⟩ : ∃ QQ : Ending → World → Prop, QQ = fun e w' => e = .returned (.bool (!decide L.Nodup)) ∧ Mod No w w' := ⟨_, rfl⟩
  rw [← hQQ]
  have HQ := Lib.hid hQQ
  clear hQQ hB hx
  go_enter Tryd.func41, Tryd.ntmps41
  go_wp2_with (first
    | (go_at_call 57; refine HV.out.mono ?_; rintro e w1 ⟨rfl, hw⟩; subst hw)
    | (go_at_call 56; refine HS.out.mono ?_; rintro e w2 ⟨v, rfl, ho, hm⟩; have HO := Lib.hid (And.intro ho hm); obtain ⟨A2, c2, hv, _, hr⟩ := ho.open; subst hv; have HRo := Lib.hid hr; clear ho hm hr)
    | (go_at_call 59; rw [← nSort_len L]; refine (HCl.out _ _ _ _ _ HRo.out (by rw [nSort_len]; omega)).mono ?_; rintro e w3 ⟨v3, rfl, ho3, hm3⟩; have HO3 := Lib.hid (And.intro ho3 hm3); clear ho3 hm3)
    | (go_at_call 58; refine (HCo.out _ _ _ _ HO3.out.1 (by rw [nSort_len]; omega)).mono ?_; rintro e w4 ⟨A4, k, c4, rfl, hm4, hk, hiff⟩; have HO4 := Lib.hid (And.intro hm4 hiff); clear hm4 hiff))
  rw [HQ.out]
  have hiff := HO4.out.2
  have hnd : (k = (nSort L).length) ↔ L.Nodup := by rw [hiff, apart_nodup (nSort_sorted L)]; exact (nSort_perm L).nodup_iff
  refine ⟨?_, ?_⟩
  · show Ending.returned (.bool ((k : Int) != ((nSort L).length : Int))) = _
    congr 2
    by_cases hk2 : k = (nSort L).length
    · rw [hk2, decide_eq_true (hnd.1 hk2)]; simp
    · rw [decide_eq_false (fun h => hk2 (hnd.2 h))]; simp; omega
  · have hm13 : Mod No w w3 := HO.out.2.trans HO3.out.2
    refine hm13.trans' HO4.out.1 (fun i hi hj => ?_)
    have h1 := (World.ownsRow.lt HO3.out.1 i hj).1
    have h2 := HO.out.2.size
    omega

end Go.Proofs.YtfpfpeachmcfeaaDoor
