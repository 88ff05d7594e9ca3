/-
  slices.Sort at short lists of numbers: cmp.Less, the insertion sort.
-/
import Derived.Test.YtfpfpeachmcfeaaDoorCollN
namespace Go.Proofs.YtfpfpeachmcfeaaDoor
open Go.RowKit
set_option linter.unusedVariables false
set_option linter.unusedSimpArgs false
attribute [local go_sem ↓] Go.wp_at_zero Go.wp_at_succ

theorem Mod.drewN {F : Nat → Prop} {a w : World} (h : Mod F a w) (n : Nat) : Mod F a (w.drewN n) := ⟨h.os, h.tape, h.output, h.size, h.block⟩
/-! ### Less -/
theorem isNaN_ok (x : Nat) (w : World) : Calls Tryd.prog 86 #[.int .u32 (x : Int)] w fun e w' => e = .returned (.bool false) ∧ w' = w := by
  go_enter Tryd.func86, Tryd.ntmps86
  go_wp2
  go_ret
  exact ⟨by first | rfl | simp, rfl⟩
theorem lessN_ok (x y : Nat) (w : World) : Calls Tryd.prog 76 #[.int .u32 (x : Int), .int .u32 (y : Int)] w fun e w' => e = .returned (.bool (decide (x < y))) ∧ w' = w := by
  have h1 := isNaN_ok x w
  have h2 : decide ((x : Int) < (y : Int)) = decide (x < y) := by rw [decide_eq_decide]; omega
  obtain ⟨B, hB⟩ : ∃ B, B = decide (x < y) := ⟨_, rfl⟩
  rw [← hB] at h2 ⊢
  have H := Lib.hid h1
  obtain ⟨a, ha⟩ : ∃ a : Int, a = (x : Int) := ⟨_, rfl⟩
  obtain ⟨b, hb⟩ : ∃ b : Int, b = (y : Int) := ⟨_, rfl⟩
  rw [← ha] at h2 H ⊢
  rw [← hb] at h2 ⊢
  clear h1 hB ha hb
  go_enter Tryd.func76, Tryd.ntmps76
  go_wp2_with (go_at_call 86; refine H.out.mono ?_; rintro e w1 ⟨rfl, hw⟩; have hw' := hw.symm; clear hw; subst hw')
  go_ret
  exact ⟨by first | rfl | simp [h2], rfl⟩

/-! ### a row of numbers of one's own, written -/
theorem OwnN.form {base : Nat} {w : World} {v : Value} {l : List Nat} (h : OwnN base w v l) (hl : 0 < l.length) : ∃ g cap, v = .slice (some ⟨g, 0, none⟩) l.length cap ∧ base ≤ g ∧ g < w.heap.size ∧ l.length ≤ cap ∧ (∀ (j x : Nat), l[j]? = some x → w.cell? ⟨g, j, none⟩ = some (.int .u32 (x : Int))) ∧ ∀ j, w.frozen? ⟨g, j, none⟩ = false := by
  rcases h.2 with ⟨_, h0⟩ | ⟨g, cap, cur, rfl, hb, hg, hn, hc, hs, ht⟩
  · omega
  · refine ⟨g, cap, rfl, hb, lt_of_block hg, hn, fun j x hj => ?_, fun j => blk_free hg j⟩
    have hj' : (numCells l)[j]? = some (.int .u32 (x : Int)) := by unfold numCells; rw [List.getElem?_map, hj]; rfl
    have hlt := (List.getElem?_eq_some_iff.1 hj').1
    rw [← ht] at hj'
    rw [blk_cell hg j]
    rw [List.getElem?_take] at hj'
    split at hj'
    · simpa using hj'
    · cases hj'
theorem OwnN.set {base : Nat} {w : World} {l : List Nat} {g n cap : Nat} (h : OwnN base w (.slice (some ⟨g, 0, none⟩) n cap) l) {i : Nat} (hi : i < l.length) (x : Nat) : OwnN base (w.setCell ⟨g, i, none⟩ (.int .u32 (x : Int))) (.slice (some ⟨g, 0, none⟩) n cap) (l.set i x) := by
  unfold OwnN at *
  refine ⟨by rw [numCells_length, List.length_set]; simp, ?_⟩
  rcases h.2 with ⟨h1, _⟩ | ⟨g', cap', cur, he, hb, hg, hn, hc, hs, ht⟩
  · cases h1
  · cases he
    refine .inr ⟨g, cap, cur.setIfInBounds i (.int .u32 (x : Int)), by rw [List.length_set], hb, heap_setCell_row hg _, by rw [List.length_set]; exact hn, hc, by simpa using hs, ?_⟩
    rw [List.length_set]
    have : numCells (l.set i x) = (numCells l).set i (.int .u32 (x : Int)) := by unfold numCells; rw [List.map_set]
    rw [this, ← ht, Array.toList_setIfInBounds, List.take_set]

/-! ### the insertion sort, plain -/
def At (m : List Nat) (p : Nat) : Nat := m.getD p 0
theorem At_set {m : List Nat} {a b x : Nat} : At (m.set a x) b = if a = b ∧ a < m.length then x else At m b := by
  unfold At
  rw [List.getD_eq_getElem?_getD, List.getD_eq_getElem?_getD, List.getElem?_set]
  by_cases h : a = b
  · subst h
    by_cases h2 : a < m.length
    · simp [h2]
    · simp [h2]
  · simp [h]
theorem At_get {m : List Nat} {p : Nat} (h : p < m.length) : m[p]? = some (At m p) := by
  unfold At
  rw [List.getD_eq_getElem?_getD, List.getElem?_eq_getElem h]
  rfl
/-- In order up to i, but for the one at j, that may be less than those before it. -/
def Almost (m : List Nat) (i j : Nat) : Prop := ∀ p q, p < q → q ≤ i → q ≠ j → At m p ≤ At m q
def swapN (m : List Nat) (j : Nat) : List Nat := (m.set j (At m (j - 1))).set (j - 1) (At m j)
theorem swapN_len (m : List Nat) (j : Nat) : (swapN m j).length = m.length := by simp [swapN]
theorem swapN_at {m : List Nat} {j : Nat} (h0 : 0 < j) (hj : j < m.length) (p : Nat) : At (swapN m j) p = if p = j then At m (j - 1) else if p = j - 1 then At m j else At m p := by
  unfold swapN
  rw [At_set, At_set, List.length_set]
  by_cases h1 : p = j
  · subst h1
    rw [if_neg (by omega), if_pos ⟨rfl, hj⟩, if_pos rfl]
  · by_cases h2 : p = j - 1
    · subst h2
      rw [if_pos ⟨rfl, by omega⟩, if_neg (by omega), if_pos rfl]
    · rw [if_neg (by omega), if_neg (by omega), if_neg h1, if_neg h2]
theorem swapN_perm {m : List Nat} {j : Nat} (h0 : 0 < j) (hj : j < m.length) : (swapN m j).Perm m := by
  have e : m = m.take (j - 1) ++ At m (j - 1) :: At m j :: m.drop (j + 1) := by
    have h1 := At_get (m := m) (p := j - 1) (by omega)
    have h2 := At_get hj
    obtain ⟨l1, e1⟩ := List.getElem?_eq_some_iff.1 h1
    obtain ⟨l2, e2⟩ := List.getElem?_eq_some_iff.1 h2
    have d1 := List.drop_eq_getElem_cons l1
    have d2 := List.drop_eq_getElem_cons l2
    rw [e1, show j - 1 + 1 = j by omega, d2, e2] at d1
    rw [← d1, List.take_append_drop]
  have e2 : swapN m j = m.take (j - 1) ++ At m j :: At m (j - 1) :: m.drop (j + 1) := by
    apply List.ext_getElem?
    intro p
    by_cases hp : p < m.length
    · rw [At_get (by rw [swapN_len]; exact hp), swapN_at h0 hj]
      rcases Nat.lt_trichotomy p (j - 1) with h | h | h
      · rw [if_neg (by omega), if_neg (by omega), List.getElem?_append_left (by rw [List.length_take]; omega), List.getElem?_take_of_lt h, At_get hp]
      · subst h
        rw [if_neg (by omega), if_pos rfl, List.getElem?_append_right (by rw [List.length_take]; omega)]
        rw [List.length_take, Nat.min_eq_left (by omega), Nat.sub_self]
        rfl
      · by_cases h3 : p = j
        · subst h3
          rw [if_pos rfl, List.getElem?_append_right (by rw [List.length_take]; omega), List.length_take, Nat.min_eq_left (by omega), show p - (p - 1) = 1 by omega]
          rfl
        · rw [if_neg h3, if_neg (by omega), List.getElem?_append_right (by rw [List.length_take]; omega), List.length_take, Nat.min_eq_left (by omega)]
          obtain ⟨d, hd⟩ : ∃ d, p - (j - 1) = d + 2 := ⟨p - (j - 1) - 2, by omega⟩
          rw [hd]
          simp only [List.getElem?_cons_succ]
          rw [List.getElem?_drop, show j + 1 + d = p by omega, At_get hp]
    · rw [List.getElem?_eq_none (by rw [swapN_len]; omega), List.getElem?_eq_none (by simp; omega)]
  rw [e2]
  conv => rhs; rw [e]
  exact List.Perm.append_left _ (List.Perm.swap _ _ _)
theorem almost_swap {m : List Nat} {i j : Nat} (h0 : 0 < j) (hji : j ≤ i) (hi : i < m.length) (h : Almost m i j) (hlt : At m j < At m (j - 1)) : Almost (swapN m j) i (j - 1) := by
  intro p q hpq hq hne
  have hjl : j < m.length := by omega
  rw [swapN_at h0 hjl, swapN_at h0 hjl]
  by_cases hqj : q = j
  · subst hqj
    rw [if_neg (show ¬ p = q by omega), if_pos rfl]
    by_cases hp : p = q - 1
    · rw [if_pos hp]; omega
    · rw [if_neg hp]; exact h p (q - 1) (by omega) (by omega) (by omega)
  · rw [if_neg hqj, if_neg hne]
    by_cases hpj : p = j
    · rw [if_pos hpj]; exact h (j - 1) q (by omega) hq hqj
    · rw [if_neg hpj]
      by_cases hp : p = j - 1
      · rw [if_pos hp]
        have h1 := h (j - 1) q (by omega) hq hqj
        omega
      · rw [if_neg hp]; exact h p q hpq hq hqj
/-- In order up to i. -/
def Sorted (m : List Nat) (i : Nat) : Prop := ∀ p q, p < q → q ≤ i → At m p ≤ At m q
theorem almost_done {m : List Nat} {i j : Nat} (h : Almost m i j) (hd : j = 0 ∨ ¬ At m j < At m (j - 1)) : Sorted m i := by
  intro p q hpq hq
  by_cases hqj : q = j
  · subst hqj
    rcases hd with h0 | h1
    · omega
    · by_cases hp : p = q - 1
      · subst hp; omega
      · have := h p (q - 1) (by omega) (by omega) (by omega)
        omega
  · exact h p q hpq hq hqj
theorem sorted_almost {m : List Nat} {i : Nat} (h : Sorted m i) : Almost m (i + 1) (i + 1) := fun p q hpq hq hne => h p q hpq (by omega)
theorem sorted_pairwise {m : List Nat} {i : Nat} (h : Sorted m i) (hl : m.length ≤ i + 1) : m.Pairwise (· ≤ ·) := by
  rw [List.pairwise_iff_getElem]
  intro p q hp hq hpq
  have h1 := h p q hpq (by omega)
  have e1 := At_get hp
  have e2 := At_get hq
  rw [List.getElem?_eq_getElem hp] at e1
  rw [List.getElem?_eq_getElem hq] at e2
  simp only [Option.some.injEq] at e1 e2
  omega

/-! ### the insertion sort, walked -/
/-- What the sort leaves: the same numbers, in order. -/
def SortP (base g n cap : Nat) (w : World) (l : List Nat) : Ending → World → Prop := fun e w' => e = .returned (.tuple #[]) ∧ Mod (fun b => b = g) w w' ∧ ∃ l', l'.Perm l ∧ l'.Pairwise (· ≤ ·) ∧ OwnN base w' (.slice (some ⟨g, 0, none⟩) n cap) l'
set_option maxRecDepth 100000 in
set_option maxHeartbeats 2000000 in
theorem insertion_ok {base : Nat} {w : World} {l : List Nat} {g n cap : Nat} (h : OwnN base w (.slice (some ⟨g, 0, none⟩) n cap) l) (hn : n = l.length) (hl : n ≤ 1000000) :
    Calls Tryd.prog 70 #[.slice (some ⟨g, 0, none⟩) n cap, .int .i64 0, .int .i64 n] w (SortP base g n cap w l) := by
  obtain ⟨QQ, hQQ⟩ : ∃ QQ, QQ = SortP base g n cap w l := ⟨_, rfl⟩
  rw [← hQQ]
  have hcap : n ≤ cap := by
    rcases h.2 with ⟨h1, _⟩ | ⟨g', cap', cur, he, _, _, hn', _⟩
    · cases h1
    · cases he; omega
  have H := Lib.hid (And.intro h (And.intro hn hQQ))
  have HLess := Lib.hid lessN_ok
  clear h hn hQQ
  go_enter Tryd.func70, Tryd.ntmps70
  go_wp2
  go_loopw [6, 7] (fun i s7 wr => ∃ (k : Nat) (m : List Nat), i = .int .i64 k ∧ 1 ≤ k ∧ (k ≤ n ∨ k = 1) ∧ m.Perm l ∧ Sorted m (k - 1) ∧ OwnN base wr (.slice (some ⟨g, 0, none⟩) n cap) m ∧ Mod (fun b => b = g) w wr) (fun i _ _ => n - (intOf i).toNat)
  case atStart => exact ⟨1, l, rfl, by omega, .inr rfl, List.Perm.refl _, fun p q hpq hq => by omega, H.out.1, Mod.refl _ _⟩
  case round =>
    obtain ⟨k, m, rfl, hk1, hkn, hp, hs, ho, hm⟩ := hrel
    have HR := Lib.hid (And.intro hp (And.intro hs (And.intro ho hm)))
    clear hp hs ho hm
    by_cases hlt : k < n
    · have t1 : (k : Int) < n := by omega
      go_upto_block 1 with fail
      go_cut [7] (fun s7 wx => ∃ m', m'.Perm l ∧ Sorted m' k ∧ OwnN base wx (.slice (some ⟨g, 0, none⟩) n cap) m' ∧ Mod (fun b => b = g) w wx)
      case first =>
        go_wp2_with fail
        go_loopw [7] (fun s7 wx => ∃ (j : Nat) (m' : List Nat), s7 = .int .i64 j ∧ j ≤ k ∧ m'.Perm l ∧ Almost m' k j ∧ OwnN base wx (.slice (some ⟨g, 0, none⟩) n cap) m' ∧ Mod (fun b => b = g) w wx) (fun s7 _ => (intOf s7).toNat)
        case atStart => exact ⟨k, m, rfl, Nat.le_refl _, HR.out.1, (by have h1 := sorted_almost HR.out.2.1; rwa [show k - 1 + 1 = k by omega] at h1), HR.out.2.2.1, HR.out.2.2.2⟩
        case round =>
          obtain ⟨j, m', rfl, hj, hp, ha, ho, hm⟩ := hrel
          have hlm : m'.length = n := by rw [hp.length_eq]; exact H.out.2.1.symm
          by_cases h0 : 0 < j
          · as_aux_lemma =>
            obtain ⟨g', cap', he, _, hg2, _, hcell, hfr⟩ := ho.form (by omega)
            obtain ⟨e1, e2, e3⟩ := Value.slice.inj he
            cases e1
            subst e3
            clear e2 he
            have c1 := hcell j _ (At_get (by omega))
            have c2 := hcell (j - 1) _ (At_get (by omega))
            have f1 := hfr j
            have f2 := hfr (j - 1)
            obtain ⟨a, haa⟩ : ∃ a, a = At m' j := ⟨_, rfl⟩
            obtain ⟨b, hbb⟩ : ∃ b, b = At m' (j - 1) := ⟨_, rfl⟩
            rw [← haa] at c1
            rw [← hbb] at c2
            obtain ⟨z, hz⟩ : ∃ z : Nat, j = z + 1 := ⟨j - 1, by omega⟩
            have i1 : ((j : Int) - 1) = ((j - 1 : Nat) : Int) := by omega
            have p1' := h0
            have p1 : (0:Int) < j := by omega
            have p2 : (j:Int) < n := by omega
            have p3 : (0:Int) ≤ ((j - 1 : Nat) : Int) := by omega
            have p4 : ((j - 1 : Nat) : Int) < n := by omega
            have HJ := Lib.hid (And.intro hp (And.intro ha (And.intro ho (And.intro hm (And.intro haa (And.intro hbb hlm))))))
            clear hp ha ho hm haa hbb hcell hfr hz
            by_cases hlt2 : a < b
            · have hL := fun W => HLess.out a b W
              rw [decide_eq_true hlt2] at hL
              have HL := Lib.hid hL
              have HC := Lib.hid hlt2
              clear hL hlt2
              go_wp2_with fail
              go_quiet (first | (go_at_call 76; exact Calls.quiet_of_same (HL.out _)))
              go_upto_region 6 with fail
              refine grab_w fun V hV => ?_
              have mV : Mod No wr V := by rw [hV]; first | exact (Mod.refl _ _).drewN _ | exact ((Mod.refl _ _).drewN _).drewN _
              have k1 : V.cell? ⟨g, j, none⟩ = some (.int .u32 (a : Int)) := mV.cell c1 (fun f => f)
              have k2 : V.cell? ⟨g, j - 1, none⟩ = some (.int .u32 (b : Int)) := mV.cell c2 (fun f => f)
              have k3 : V.frozen? ⟨g, j, none⟩ = false := by rw [hV]; exact f1
              have k4 : V.frozen? ⟨g, j - 1, none⟩ = false := by rw [hV]; exact f2
              have hV2 : g < V.heap.size := by have := mV.size; omega
              have HV := Lib.hid (And.intro mV (HJ.out.2.2.1.mod mV (fun _ _ f => f)))
              clear mV hV c1 c2 f1 f2
              have hne : j ≠ j - 1 := by omega
              have hfin : ∀ X, (X = (V.setCell ⟨g, j, none⟩ (.int .u32 (b : Int))).setCell ⟨g, j - 1, none⟩ (.int .u32 (a : Int)) ∨ X = (V.setCell ⟨g, j - 1, none⟩ (.int .u32 (a : Int))).setCell ⟨g, j, none⟩ (.int .u32 (b : Int)) ∨ X = (V.drew.setCell ⟨g, j, none⟩ (.int .u32 (b : Int))).setCell ⟨g, j - 1, none⟩ (.int .u32 (a : Int)) ∨ X = (V.drew.setCell ⟨g, j - 1, none⟩ (.int .u32 (a : Int))).setCell ⟨g, j, none⟩ (.int .u32 (b : Int))) → (swapN m' j).Perm l ∧ Almost (swapN m' j) k (j - 1) ∧ OwnN base X (.slice (some ⟨g, 0, none⟩) n cap) (swapN m' j) ∧ Mod (fun b => b = g) w X := fun X hX => by
                have hJ := HJ.out
                have hjl : j < m'.length := by have := hJ.2.2.2.2.2.2; omega
                have hlt2 : At m' j < At m' (j - 1) := by rw [← hJ.2.2.2.2.1, ← hJ.2.2.2.2.2.1]; exact HC.out
                refine ⟨(swapN_perm p1' hjl).trans hJ.1, almost_swap p1' hj (by have := hJ.2.2.2.2.2.2; omega) hJ.2.1 hlt2, ?_, ?_⟩
                · have e : swapN m' j = (m'.set j b).set (j - 1) a := by unfold swapN; rw [← hJ.2.2.2.2.1, ← hJ.2.2.2.2.2.1]
                  have e2 : swapN m' j = (m'.set (j - 1) a).set j b := by rw [e, List.set_comm _ _ hne]
                  have hVd : OwnN base V.drew (.slice (some ⟨g, 0, none⟩) n cap) m' := HV.out.2.mod (Mod.refl No _).drew (fun _ _ f => f)
                  rcases hX with rfl | rfl | rfl | rfl
                  · rw [e]; exact (HV.out.2.set hjl b).set (by rw [List.length_set]; omega) a
                  · rw [e2]; exact (HV.out.2.set (by omega) a).set (by rw [List.length_set]; omega) b
                  · rw [e]; exact (hVd.set hjl b).set (by rw [List.length_set]; omega) a
                  · rw [e2]; exact (hVd.set (by omega) a).set (by rw [List.length_set]; omega) b
                · have h1 : Mod (fun b => b = g) w V := hJ.2.2.2.1.trans (HV.out.1.mono (fun _ f => f.elim))
                  rcases hX with rfl | rfl | rfl | rfl
                  · exact (h1.setCell (p := ⟨g, j, none⟩) (.inr rfl) _).setCell (p := ⟨g, j - 1, none⟩) (.inr rfl) _
                  · exact (h1.setCell (p := ⟨g, j - 1, none⟩) (.inr rfl) _).setCell (p := ⟨g, j, none⟩) (.inr rfl) _
                  · exact (h1.drew.setCell (p := ⟨g, j, none⟩) (.inr rfl) _).setCell (p := ⟨g, j - 1, none⟩) (.inr rfl) _
                  · exact (h1.drew.setCell (p := ⟨g, j - 1, none⟩) (.inr rfl) _).setCell (p := ⟨g, j, none⟩) (.inr rfl) _
              have HF := Lib.hid hfin
              clear hfin
              go_region
              all_goals
                go_wp2_with fail
                have hres := HF.out _ (by first | exact .inl rfl | exact .inr (.inl rfl) | exact .inr (.inr (.inl rfl)) | exact .inr (.inr (.inr rfl)))
                exact ⟨⟨j - 1, swapN m' j, by first | rfl | (congr 1; omega), by omega, hres.1, hres.2.1, hres.2.2.1, by first | exact hres.2.2.2 | exact hres.2.2.2.drew⟩, by simp [intOf]; omega⟩
            · have hL := fun W => HLess.out a b W
              rw [decide_eq_false hlt2] at hL
              have HL := Lib.hid hL
              have HC := Lib.hid hlt2
              clear hL hlt2
              go_wp2_with fail
              go_quiet (first | (go_at_call 76; exact Calls.quiet_of_same (HL.out _)))
              go_wp2_with fail
              go_meet
              have hJ := HJ.out
              exact ⟨m', hJ.1, almost_done hJ.2.1 (.inr (by have := HC.out; have := hJ.2.2.2.2.1; have := hJ.2.2.2.2.2.1; omega)), hJ.2.2.1.mod ((Mod.refl No _).drewN _) (fun _ _ f => f), hJ.2.2.2.1.drewN _⟩
          · as_aux_lemma =>
            have hj0 : j = 0 := by omega
            subst hj0
            have HJ := Lib.hid (And.intro hp (And.intro ha (And.intro ho hm)))
            clear hp ha ho hm
            go_wp2_with fail
            go_quiet (fail)
            go_wp2_with fail
            go_meet
            exact ⟨m', HJ.out.1, almost_done HJ.out.2.1 (.inl rfl), HJ.out.2.2.1.mod ((Mod.refl No _).drewN _) (fun _ _ f => f), HJ.out.2.2.2.drewN _⟩
      case rest =>
        obtain ⟨m', hp, hs, ho, hm⟩ := hcut
        have HX := Lib.hid (And.intro hp (And.intro hs (And.intro ho hm)))
        clear hp hs ho hm
        go_wp2
        exact ⟨⟨k + 1, m', by go_num, by omega, .inl (by omega), HX.out.1, HX.out.2.1, HX.out.2.2.1, HX.out.2.2.2⟩, by simp [intOf]; omega⟩
    · as_aux_lemma =>
      have t1 : ¬ (k : Int) < n := by omega
      go_wp2
      go_end0
      rw [H.out.2.2]
      have hlen := HR.out.1.length_eq
      have hn' := H.out.2.1
      exact ⟨rfl, HR.out.2.2.2, m, HR.out.1, sorted_pairwise HR.out.2.1 (by omega), HR.out.2.2.1⟩

end Go.Proofs.YtfpfpeachmcfeaaDoor
