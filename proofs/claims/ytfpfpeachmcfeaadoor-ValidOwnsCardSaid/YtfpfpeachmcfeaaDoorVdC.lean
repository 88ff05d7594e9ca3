/-
  Lists of numbers: slices.Concat (printed by genconcat.py), Contains, the reference's in.
-/
import Derived.Test.YtfpfpeachmcfeaaDoorVdB
import Derived.IntWalk
import Derived.Lib.AppendZeros
namespace Go.Proofs.YtfpfpeachmcfeaaDoor
open Go.RowKit
set_option linter.unusedVariables false
set_option linter.unusedSimpArgs false
def partVal (p : Option Addr × Nat × List Value) : Value := .slice p.1 p.2.2.length p.2.1
def partsAll (l : List (Option Addr × Nat × List Value)) : List Value := l.flatMap fun p => p.2.2
theorem partsAll_snoc {l : List (Option Addr × Nat × List Value)} {k : Nat} {p : Option Addr × Nat × List Value} (h : l[k]? = some p) : partsAll (l.take (k + 1)) = partsAll (l.take k) ++ p.2.2 := by
  obtain ⟨hl, e⟩ := List.getElem?_eq_some_iff.1 h
  rw [List.take_succ_eq_append_getElem hl, e]
  simp [partsAll]
theorem partsAll_le (l : List (Option Addr × Nat × List Value)) (k : Nat) : (partsAll (l.take k)).length ≤ (partsAll l).length := by
  have : partsAll l = partsAll (l.take k) ++ partsAll (l.drop k) := by rw [partsAll, partsAll, partsAll, ← List.flatMap_append, List.take_append_drop]
  rw [this, List.length_append]
  omega

theorem infoCN32 : (Tryd.prog.info? 22).map (fun i => (i.zero, i.size, i.bytes)) = some (some (.int .u32 0), 1, 4) := by kernel_rfl
set_option maxRecDepth 100000 in
theorem grow_nilN32 {w : World} (n : Nat) (hn : n ≤ 100000000) :
    Calls Tryd.prog 55 #[.slice none 0 0, .int .i64 n] w fun e w' => ∃ v, e = .returned v ∧ w'.ownsRow w.heap.size 22 1 v 0 [] ∧ Mod No w w' := by
  by_cases h0 : n = 0
  · subst h0
    go_enter Tryd.func55, Tryd.ntmps55
    go_wp2
    go_ret
    exact ⟨_, rfl, ⟨rfl, .inl ⟨rfl, rfl⟩⟩, Mod.refl _ _⟩
  · obtain ⟨i0, hi, hz0, hz1, hz2⟩ := info_parts infoCN32
    have hn0 : 0 < n := by omega
    have hrz : ∀ ty, (Builtin.append_ #[26, 3] ty #[.slice none 0 0, .int .i64 n]).run Tryd.prog w =
        .ok (.slice (some ⟨w.heap.size, 0, none⟩) n (grownCap w n 0 22)) (w.drew.alloc (.cells (([] : List Value).toArray ++ Builtin.zeroCells (.int .u32 0 : Value).cells (n - 0) ++ Builtin.zeroCells (.int .u32 0 : Value).cells (grownCap w n 0 22 - n)) 22)) := fun ty => by
      have h := Lib.run_append_grow_zeros w 26 3 ty 22 i0 (.int .u32 0) .i64 .i64 Tryd.underlying26 Tryd.underlying3 hi hz0 none 0 0 [] (by rw [hz1]; exact run_firstCells_none w.drew 1 0 0 0) n hn0 (by rw [hz1]; decide) (by omega) (by omega) (by rw [hz2]; omega) (by rw [hz2, Nat.zero_add]; exact growslice_fits hn0 (by omega))
      rw [Nat.zero_add] at h
      exact h
    have hG1 := grownCap_ge w n 0 22
    have hG2 := grownCap_le_maxLen w n 0 22 (by unfold maxLen; omega)
    obtain ⟨G, hG⟩ : ∃ G, G = grownCap w n 0 22 := ⟨_, rfl⟩
    rw [← hG] at hrz hG1 hG2
    have hsz : (([] : List Value).toArray ++ Builtin.zeroCells (.int .u32 0 : Value).cells (n - 0) ++ Builtin.zeroCells (.int .u32 0 : Value).cells (G - n)).size = G * 1 := by
      have hz : ∀ k, (Builtin.zeroCells (.int .u32 0 : Value).cells k).size = k := fun k => by unfold Builtin.zeroCells; rw [Array.size_map, Array.size_range]; simp [Value.cells]
      rw [Array.size_append, Array.size_append, hz, hz]
      simp
      omega
    obtain ⟨X, hX⟩ : ∃ X, X = ([] : List Value).toArray ++ Builtin.zeroCells (.int .u32 0 : Value).cells (n - 0) ++ Builtin.zeroCells (.int .u32 0 : Value).cells (G - n) := ⟨_, rfl⟩
    rw [← hX] at hrz hsz
    have p1 : (0 : Int) < n := by omega
    have p2 : ¬ (n : Int) < 0 := by omega
    have H := Lib.hid (And.intro hsz (And.intro hG1 hG2))
    unfold maxLen at hG2
    clear hG hX hsz hi hz0 hz1 hz2 h0 hn0
    go_enter Tryd.func55, Tryd.ntmps55
    go_wp2_with (at_builtin; refine Lib.wpList_append_run _ (by rfl) _ _ _ _ (by rfl) _ _ (by rfl) (by rfl) _ _ (hrz _) ?_)
    go_ret
    refine ⟨_, rfl, ⟨rfl, .inr ⟨w.heap.size, G, X, rfl, Nat.le_refl _, at10 w.drew _, by omega, H.out.2.2, H.out.1, rfl⟩⟩, (Mod.refl _ w).drew.alloc _⟩

set_option maxRecDepth 100000 in
theorem concat_okN32 {S : Nat → Prop} {w : World} (l : List (Option Addr × Nat × List Value)) {Q : Option Addr} {q : Nat} (hQ : RowAt S w Q (l.map partVal)) (hl : l.length ≤ 1000) (hS : ∀ b, S b → b < w.heap.size)
    (hrows : ∀ p ∈ l, RowAt S w p.1 p.2.2 ∧ ∀ u ∈ p.2.2, u.oneCell' = true) (hall : (partsAll l).length ≤ 100000000) :
    Calls Tryd.prog 38 #[.slice Q l.length q] w fun e w' => ∃ v, e = .returned v ∧ w'.ownsRow w.heap.size 22 1 v (partsAll l).length (partsAll l) ∧ Mod No w w' := by
  obtain ⟨n, hn⟩ : ∃ n, n = l.length := ⟨_, rfl⟩
  rw [← hn] at hl
  rw [← hn]
  have H0 := Lib.hid (And.intro hQ (And.intro hn (And.intro hS (And.intro hrows hall))))
  clear hQ hn hS hrows hall
  obtain ⟨i0, hi, hz0, hz1, hz2⟩ := info_parts infoCN32
  go_enter Tryd.func38, Tryd.ntmps38
  go_wp2
  go_loopw [3, 5, 11] (fun t x i wr => ∃ (k m : Nat), i = .int .i64 k ∧ k ≤ n ∧ t = .int .i64 m ∧ m = (partsAll (l.take k)).length ∧ w = wr) (fun _ _ i _ => n - (intOf i).toNat)
  case atStart => exact ⟨0, 0, rfl, by omega, rfl, by simp [partsAll], rfl⟩
  case round =>
    obtain ⟨k, m, rfl, hk, rfl, hm, rfl⟩ := hrel
    by_cases hlt : k < n
    · obtain ⟨p, hp⟩ : ∃ p, l[k]? = some p := ⟨_, List.getElem?_eq_getElem (by have := H0.out.2.1; omega)⟩
      have hpc : (l.map partVal)[k]? = some (partVal p) := by simp [hp]
      obtain ⟨b, o, rfl, _, _, hcell⟩ := H0.out.1.open (by intro e; rw [e] at hpc; simp at hpc)
      have hc0 := hcell k _ hpc
      unfold partVal at hc0
      obtain ⟨A, c, xs⟩ := p
      simp only at hc0
      have hs := partsAll_snoc hp
      have hs' := congrArg List.length hs
      rw [List.length_append, ← hm] at hs'
      simp only at hs'
      have hle := partsAll_le l (k + 1)
      have hall := H0.out.2.2.2.2
      have p1 : (0:Int) ≤ k := by omega
      have p2 : (k:Int) < n := by omega
      have p3 : (0:Int) ≤ (m : Int) + (xs.length : Int) := by omega
      have p4 : (m : Int) + (xs.length : Int) ≤ 100000000 := by omega
      have p5 : ¬ ((m : Int) + (xs.length : Int) < 0) := by omega
      have p6 : IntKind.i64.wrap ((m : Int) + (xs.length : Int)) = (m : Int) + (xs.length : Int) := IntWalk.i64_in _ (by omega)
      have HS := Lib.hid hs'
      clear hp hpc hcell hs hs' hle hall hm
      go_wp2
      exact ⟨⟨k + 1, m + xs.length, by go_num, by omega, by go_num, HS.out.symm, by first | rfl | trivial⟩, by simp [intOf]; omega⟩
    · have hk' : k = n := by omega
      subst hk'
      have hml : m ≤ 100000000 := by rw [hm]; exact Nat.le_trans (partsAll_le l k) H0.out.2.2.2.2
      have HG := Lib.hid (grow_nilN32 (w := w) m hml)
      clear hm
      go_wp2_with (first | (go_at_call 55; refine HG.out.mono ?_; rintro e w1 ⟨v1, rfl, ho1, hm1⟩; have H1 := Lib.hid (And.intro ho1 hm1); clear ho1 hm1) | fail)
      go_loopw [6, 8, 27] (fun t x i wr => ∃ (j : Nat) (v : Value), i = .int .i64 j ∧ j ≤ k ∧ v = t ∧ wr.ownsRow w.heap.size 22 1 v (partsAll (l.take j)).length (partsAll (l.take j)) ∧ Mod No w wr) (fun _ _ i _ => k - (intOf i).toNat)
      case atStart => exact ⟨0, v1, rfl, by omega, rfl, by simpa [partsAll] using H1.out.1, H1.out.2⟩
      case round =>
        obtain ⟨j, v, rfl, hj, rfl, how, hmw⟩ := hrel
        by_cases hlt : j < k
        · obtain ⟨p, hp⟩ : ∃ p, l[j]? = some p := ⟨_, List.getElem?_eq_getElem (by have := H0.out.2.1; omega)⟩
          have hpc : (l.map partVal)[j]? = some (partVal p) := by simp [hp]
          have hkp : Keeps S w wr := hmw.keeps (fun _ _ _ f => f)
          obtain ⟨b, o, rfl, _, _, hcell⟩ := (H0.out.1.keeps hkp).open (by intro e; rw [e] at hpc; simp at hpc)
          have hc0 := hcell j _ hpc
          unfold partVal at hc0
          obtain ⟨A, c, xs⟩ := p
          simp only at hc0
          have hrw := H0.out.2.2.2.1 _ (List.mem_of_getElem? hp)
          have hs := partsAll_snoc hp
          have hle := partsAll_le l (j + 1)
          have hall := H0.out.2.2.2.2
          rw [hs, List.length_append] at hle
          obtain ⟨v2, w2, hrun, ho2, hg2, hb2⟩ := run_append_row (P := Tryd.prog) wr w.heap.size 26 26 22 i0 _ 1 4 Tryd.underlying26 hi hz0 hz1 hz2 rfl (by decide) v _ _ how A xs.length c xs (hrw.1.keeps hkp) (by rw [Nat.mul_one]) hrw.2 (by unfold maxLen; simp only at hle; omega) (by simp only at hle; omega) hmw.size
          have hfin : w2.ownsRow w.heap.size 22 1 v2 (partsAll (l.take (j + 1))).length (partsAll (l.take (j + 1))) := by
            rw [hs, List.length_append]; exact ho2
          have hm2 : Mod No w w2 := hmw.trans' (F := No) (G := fun b => v.ownBlock = some b) (Mod.grown (Mod.refl _ _) hg2 (fun q hq => .inr hq)) (fun i hi hg => by
            rcases how.2 with ⟨rfl, _⟩ | ⟨g, _, _, rfl, hge, _⟩
            · simp [Value.ownBlock] at hg
            · simp [Value.ownBlock] at hg; omega)
          have HF := Lib.hid (And.intro hfin hm2)
          have p1 : (0:Int) ≤ j := by omega
          have p2 : (j:Int) < k := by omega
          clear hp hpc hcell hrw hs hle hall how hkp ho2 hg2 hb2 hfin hm2 hmw
          go_wp2_with (at_builtin; refine Lib.wpList_append_run _ (by rfl) _ _ _ _ (by rfl) _ _ (by rfl) (by rfl) _ _ hrun ?_)
          exact ⟨⟨j + 1, v2, by go_num, by omega, by simp, HF.out.1, HF.out.2⟩, by simp [intOf]; omega⟩
        · have hj' : j = k := by omega
          subst hj'
          have hlk := H0.out.2.1
          rw [hlk, List.take_length] at how
          have HF := Lib.hid (And.intro how hmw)
          clear how hmw hlk
          go_wp2
          go_ret
          exact ⟨_, rfl, HF.out.1, HF.out.2⟩

theorem numCells_length (l : List Nat) : (numCells l).length = l.length := by simp [numCells]
/-! ### Contains -/
def numIdx (l : List Nat) (x : Nat) : Int := match l.findIdx? (fun y => decide (y = x)) with | some i => i | none => -1
theorem numIdx_hit {l : List Nat} {x k : Nat} (h : ∀ y ∈ l.take k, y ≠ x) (hk : l[k]? = some x) : numIdx l x = k := by
  obtain ⟨hlt, e⟩ := List.getElem?_eq_some_iff.1 hk
  have : l.findIdx? (fun y => decide (y = x)) = some k := by
    rw [List.findIdx?_eq_some_iff_getElem]
    refine ⟨hlt, by simp [e], fun j hj => ?_⟩
    have := h l[j] (List.mem_of_getElem? (i := j) (by rw [List.getElem?_take_of_lt hj]; exact List.getElem?_eq_getElem (by omega)))
    simpa using this
  rw [numIdx, this]
theorem numIdx_miss {l : List Nat} {x k : Nat} (h : ∀ y ∈ l.take k, y ≠ x) (hk : l.length ≤ k) : numIdx l x = -1 := by
  rw [List.take_of_length_le hk] at h
  have : l.findIdx? (fun y => decide (y = x)) = none := by
    rw [List.findIdx?_eq_none_iff]
    intro y hy
    simpa using h y hy
  rw [numIdx, this]
theorem numIdx_iff (l : List Nat) (x : Nat) : decide ((0 : Int) ≤ numIdx l x) = decide (x ∈ l) := by
  unfold numIdx
  cases h : l.findIdx? (fun y => decide (y = x)) with
  | none =>
    rw [List.findIdx?_eq_none_iff] at h
    have : x ∉ l := fun hx => by simpa using h x hx
    simp [this]
  | some i =>
    obtain ⟨hlt, h1, _⟩ := List.findIdx?_eq_some_iff_getElem.1 h
    have h2 : l[i] = x := by simpa using h1
    have : x ∈ l := h2 ▸ List.getElem_mem hlt
    simp [this]
theorem take_ne_next {l : List Nat} {x y k : Nat} (h : ∀ z ∈ l.take k, z ≠ x) (hk : l[k]? = some y) (he : y ≠ x) : ∀ z ∈ l.take (k + 1), z ≠ x := by
  obtain ⟨hlt, e⟩ := List.getElem?_eq_some_iff.1 hk
  rw [List.take_succ_eq_append_getElem hlt, e]
  intro p hp
  rcases List.mem_append.1 hp with h1 | h1
  · exact h p h1
  · obtain rfl : p = y := by simpa using h1
    exact he
theorem num_at {Q : Nat → Prop} {w : World} {A : Option Addr} {l : List Nat} (h : RowAt Q w A (numCells l)) {k y : Nat} (hk : l[k]? = some y) : ∃ b o, A = some ⟨b, o, none⟩ ∧ Q b ∧ b < w.heap.size ∧ w.cell? ⟨b, o + k, none⟩ = some (.int .u32 (y : Int)) := by
  have hne : numCells l ≠ [] := by
    intro e
    have := congrArg List.length e
    rw [numCells_length] at this
    have hlt := (List.getElem?_eq_some_iff.1 hk).1
    simp at this
    simp [this] at hlt
  obtain ⟨b, o, e, hq, hlt, hc⟩ := h.open hne
  exact ⟨b, o, e, hq, hlt, hc k _ (by unfold numCells; rw [List.getElem?_map, hk]; rfl)⟩
set_option maxRecDepth 100000 in
theorem index_ok {Q : Nat → Prop} {w : World} {A : Option Addr} {c n : Nat} (l : List Nat) (x : Nat) (hx : RowAt Q w A (numCells l)) (hn : n = l.length) (hl : l.length ≤ 1000000) :
    Calls Tryd.prog 52 #[.slice A n c, .int .u32 (x : Int)] w fun e w' => e = .returned (.int .i64 (numIdx l x)) ∧ w' = w := by
  obtain ⟨z, hz⟩ : ∃ z : Int, z = (x : Int) := ⟨_, rfl⟩
  rw [← hz]
  obtain ⟨R, hR⟩ : ∃ R, R = numIdx l x := ⟨_, rfl⟩
  rw [← hR]
  have H := Lib.hid (And.intro hx (And.intro hn (And.intro hz hR)))
  rw [← hn] at hl
  clear hx hn hz hR
  go_enter Tryd.func52, Tryd.ntmps52
  go_wp2
  go_loopw [8] (fun i wr => ∃ k : Nat, i = .int .i64 k ∧ k ≤ n ∧ (∀ y ∈ l.take k, y ≠ x) ∧ w = wr) (fun i _ => n - (intOf i).toNat)
  case atStart => exact ⟨0, rfl, by omega, by simp, rfl⟩
  case round =>
    obtain ⟨k, rfl, hk, hno, rfl⟩ := hrel
    have HN := Lib.hid hno
    clear hno
    by_cases hkn : k < n
    · obtain ⟨y, hy⟩ : ∃ y, l[k]? = some y := ⟨_, List.getElem?_eq_getElem (by have := H.out.2.1; omega)⟩
      obtain ⟨b, o, rfl, _, _, hc⟩ := num_at H.out.1 hy
      obtain ⟨v, hv⟩ : ∃ v : Int, v = (y : Int) := ⟨_, rfl⟩
      rw [← hv] at hc
      have HY := Lib.hid (And.intro hy hv)
      have p1 : (0:Int) ≤ k := by omega
      have p2 : (k:Int) < n := by omega
      clear hy hv
      by_cases he : y = x
      · as_aux_lemma =>
        have t : (z == v) = true := by rw [HY.out.2, H.out.2.2.1]; exact beq_iff_eq.2 (by omega)
        have hfin : (k : Int) = R := by rw [H.out.2.2.2, numIdx_hit HN.out (he ▸ HY.out.1)]
        have HF := Lib.hid hfin
        clear he hfin
        go_wp2
        go_ret
        exact ⟨by rw [← HF.out]; rfl, rfl⟩
      · as_aux_lemma =>
        have t : (z == v) = false := by rw [HY.out.2, H.out.2.2.1]; exact beq_eq_false_iff_ne.2 (by omega)
        have HE := Lib.hid he
        clear he
        go_wp2
        exact ⟨⟨k + 1, by go_num, by omega, take_ne_next HN.out HY.out.1 HE.out, by first | rfl | trivial⟩, by simp [intOf]; omega⟩
    · as_aux_lemma =>
      have hkn' : k = n := by omega
      subst hkn'
      have hfin : (-1 : Int) = R := by rw [H.out.2.2.2, numIdx_miss HN.out (by have := H.out.2.1; omega)]
      have HF := Lib.hid hfin
      clear hfin
      go_wp2
      go_ret
      exact ⟨by rw [← HF.out]; rfl, rfl⟩
theorem contains_ok {Q : Nat → Prop} {w : World} {A : Option Addr} {c n : Nat} (l : List Nat) (x : Nat) (hx : RowAt Q w A (numCells l)) (hn : n = l.length) (hl : l.length ≤ 1000000) :
    Calls Tryd.prog 24 #[.slice A n c, .int .u32 (x : Int)] w fun e w' => e = .returned (.bool (decide (x ∈ l))) ∧ w' = w := by
  have HI := Lib.hid (index_ok (c := c) l x hx hn hl)
  have e1 := numIdx_iff l x
  obtain ⟨R, hR⟩ : ∃ R, R = numIdx l x := ⟨_, rfl⟩
  obtain ⟨B, hB⟩ : ∃ B, B = decide (x ∈ l) := ⟨_, rfl⟩
  rw [← hR] at e1 HI
  rw [← hB] at e1 ⊢
  clear hx hn hl hR hB
  go_enter Tryd.func24, Tryd.ntmps24
  go_wp2_with (go_at_call 52; refine HI.out.mono ?_; rintro e w1 ⟨rfl, rfl⟩)
  go_ret
  exact ⟨by first | rfl | simp [e1], rfl⟩
set_option maxRecDepth 100000 in
theorem in_ok {Q : Nat → Prop} {w : World} {A : Option Addr} {c n : Nat} (l : List Nat) (x : Nat) (hx : RowAt Q w A (numCells l)) (hn : n = l.length) (hl : l.length ≤ 1000000) :
    Calls Tryd.prog 26 #[.slice A n c, .int .u32 (x : Int)] w fun e w' => e = .returned (.bool (decide (x ∈ l))) ∧ w' = w := by
  obtain ⟨z, hz⟩ : ∃ z : Int, z = (x : Int) := ⟨_, rfl⟩
  rw [← hz]
  obtain ⟨R, hR⟩ : ∃ R, R = decide (x ∈ l) := ⟨_, rfl⟩
  rw [← hR]
  have H := Lib.hid (And.intro hx (And.intro hn (And.intro hz hR)))
  rw [← hn] at hl
  clear hx hn hz hR
  go_enter Tryd.func26, Tryd.ntmps26
  go_wp2
  go_loopw [5] (fun i wr => ∃ k : Nat, i = .int .i64 k ∧ k ≤ n ∧ (∀ y ∈ l.take k, y ≠ x) ∧ w = wr) (fun i _ => n - (intOf i).toNat)
  case atStart => exact ⟨0, rfl, by omega, by simp, rfl⟩
  case round =>
    obtain ⟨k, rfl, hk, hno, rfl⟩ := hrel
    have HN := Lib.hid hno
    clear hno
    by_cases hkn : k < n
    · obtain ⟨y, hy⟩ : ∃ y, l[k]? = some y := ⟨_, List.getElem?_eq_getElem (by have := H.out.2.1; omega)⟩
      obtain ⟨b, o, rfl, _, _, hc⟩ := num_at H.out.1 hy
      obtain ⟨v, hv⟩ : ∃ v : Int, v = (y : Int) := ⟨_, rfl⟩
      rw [← hv] at hc
      have HY := Lib.hid (And.intro hy hv)
      have p1 : (0:Int) ≤ k := by omega
      have p2 : (k:Int) < n := by omega
      clear hy hv
      by_cases he : y = x
      · as_aux_lemma =>
        have t : (v == z) = true := by rw [HY.out.2, H.out.2.2.1]; exact beq_iff_eq.2 (by omega)
        have hfin : true = R := by rw [H.out.2.2.2]; exact (decide_eq_true (he ▸ List.mem_of_getElem? HY.out.1)).symm
        have HF := Lib.hid hfin
        clear he hfin
        go_wp2
        go_ret
        exact ⟨by rw [← HF.out]; rfl, rfl⟩
      · as_aux_lemma =>
        have t : (v == z) = false := by rw [HY.out.2, H.out.2.2.1]; exact beq_eq_false_iff_ne.2 (by omega)
        have HE := Lib.hid he
        clear he
        go_wp2
        exact ⟨⟨k + 1, by go_num, by omega, take_ne_next HN.out HY.out.1 HE.out, by first | rfl | trivial⟩, by simp [intOf]; omega⟩
    · as_aux_lemma =>
      have hkn' : k = n := by omega
      subst hkn'
      have hfin : false = R := by
        have hno := HN.out
        rw [List.take_of_length_le (by have := H.out.2.1; omega)] at hno
        rw [H.out.2.2.2]
        exact (decide_eq_false (fun hm => hno x hm rfl)).symm
      have HF := Lib.hid hfin
      clear hfin
      go_wp2
      go_ret
      exact ⟨by rw [← HF.out]; rfl, rfl⟩

end Go.Proofs.YtfpfpeachmcfeaaDoor
