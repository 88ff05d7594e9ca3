/-
  Package cfg, sixth part: a name read; was all read.
-/
import Derived.Test.YtcnemhhbihhcfaaCfgE
namespace Go.Proofs.Ytcnemhhbihhcfaa
open Go.RowKit
set_option linter.unusedVariables false

/-- A name read: its bytes; the place behind it, whether the bytes ended too early. -/
def rname (B : List UInt8) (s : Nat × Bool) : List UInt8 × (Nat × Bool) := rtake B (rtake B s 1).2 (beval (rtake B s 1).1)
theorem rname_le (B : List UInt8) (s : Nat × Bool) (h : s.1 ≤ B.length) : (rname B s).2.1 ≤ B.length := rtake_le B _ _ (rtake_le B s 1 h)
theorem splice_all (k : Nat) (xs : List UInt8) (h : xs.length = k) : splice (bcells (List.replicate k 0)) 0 (bcells xs) = bcells xs := by
  simp [splice, bcells, h]

set_option maxRecDepth 100000 in
theorem name_rd {S : Nat → Prop} {w : World} {C : Nat} {A : Option Addr} {c at_ : Nat} {sh : Bool} (B : List UInt8) (hb : w.heap[C]? = some (rdObj A B.length c at_ sh)) (hrow : RowAt S w A (bcells B)) (hat : at_ ≤ B.length) (hc : B.length ≤ c) (hB : B.length ≤ 100000000) (hS : ¬ S C)
    (l0 : List UInt8) (hl : l0.length ≤ 100000000) {T o : Nat} {cs : Array Value} {t : TypeId} (hT : w.heap[T]? = some (.cells cs t (0, 0))) (ho : cs[o]? = some (.string (str l0))) (h1 : T ≠ C) :
    Calls Try.prog 36 #[.pointer (some ⟨C, 0, none⟩), .pointer (some ⟨T, o, none⟩)] w fun e w' => e = .returned (.tuple #[]) ∧ w'.heap[C]? = some (rdObj A B.length c (rname B (at_, sh)).2.1 (rname B (at_, sh)).2.2) ∧
      w'.heap[T]? = some (.cells (cs.setIfInBounds o (.string (str (rname B (at_, sh)).1))) t (0, 0)) ∧ Mod (fun b => b = C ∨ b = T) w w' := by
  obtain ⟨cap, w1, hcv, hcap, hm1, hs1, hc1⟩ := conv_bytes l0 hl w
  have hlt := lt_of_block hb
  have hTl := lt_of_block hT
  have hrow' := hrow.mono (S' := fun b => S b ∧ b < w.heap.size) (fun b hb hs => ⟨hs, hb⟩)
  have hr1 := hrow'.keeps (hm1.keeps (fun _ _ _ f => f))
  have hSC : ¬ (S C ∧ C < w.heap.size) := fun f => hS f.1
  have HC := count_rd B (hm1.obj hb id) hr1 hat hc hB hSC l0.length
  obtain ⟨s1, hs1e⟩ : ∃ s1, s1 = (rtake B (at_, sh) 1).2 := ⟨_, rfl⟩
  obtain ⟨n, hn⟩ : ∃ n, n = beval (rtake B (at_, sh) 1).1 := ⟨_, rfl⟩
  have hat1 : s1.1 ≤ B.length := by rw [hs1e]; exact rtake_le B _ 1 hat
  have hn8 : n < 256 := by
    have := beval_lt (rtake B (at_, sh) 1).1
    rwa [rtake_length, ← hn] at this
  have hne : rname B (at_, sh) = rtake B s1 n := by rw [rname, hs1e, hn]
  rw [← hs1e, ← hn] at HC
  rw [hne]
  obtain ⟨xs, hxs⟩ : ∃ xs, xs = (rtake B s1 n).1 := ⟨_, rfl⟩
  obtain ⟨s2, hs2⟩ : ∃ s2, s2 = (rtake B s1 n).2 := ⟨_, rfl⟩
  have hxl : xs.length = n := by rw [hxs]; exact rtake_length _ _ _
  rw [← hxs, ← hs2]
  have hmk := make_bytes n (by omega)
  have hby : ∀ w2, w2.heap[C]? = some (rdObj A B.length c s1.1 s1.2) → Mod (fun b => b = C) w1 w2 → Calls Try.prog 54 #[.pointer (some ⟨C, 0, none⟩), .slice (some ⟨w2.heap.size, 0, none⟩) n n] (w2.alloc (.cells (bcells (List.replicate n 0)).toArray 5)) fun e w' => e = .returned (.tuple #[]) ∧ w'.heap[C]? = some (rdObj A B.length c s2.1 s2.2) ∧
      w'.heap[w2.heap.size]? = some (.cells (bcells xs).toArray 5 (0, 0)) ∧ Mod (fun b => b = C) w1 w' := by
    intro w2 hb2 hm2
    have hm3 : Mod (fun b => b = C) w1 (w2.alloc (.cells (bcells (List.replicate n 0)).toArray 5)) := hm2.alloc _
    have h := bytes_rd B (((Mod.refl No w2).alloc (.cells (bcells (List.replicate n 0)).toArray 5)).obj hb2 id) (hr1.keeps (hm3.keeps (fun b _ hs e => hSC (by subst e; exact hs)))) hat1 hc hB n (by omega) hSC (T := w2.heap.size) (o := 0) (kc := n) (cs := bcells (List.replicate n 0)) (at10 w2 _) (by rw [bcells_length]; simp) (by have := hm2.size; omega)
    rw [← hxs, splice_all n xs hxl, ← hs2] at h
    exact h.mono fun e w' ⟨e1, e2, e3, e4⟩ => ⟨e1, e2, e3, hm3.trans' e4 (fun i hi hg => by rcases hg with h | h; exact h; have := hm2.size; omega)⟩
  have hsl := fun g => slice_head g n n n (Nat.le_refl _)
  have hcbt : ∀ g w3, w3.heap[g]? = some (.cells (bcells xs).toArray 5 (0, 0)) → (convert 34 9 (.slice (some ⟨g, 0, none⟩) n n)).run Try.prog w3 = .ok (.string (str xs)) w3 := by
    intro g w3 h
    rw [← hxl]
    exact conv_back _ _ xs (fun j u hj => by rw [blk_cell h]; simpa using hj)
  have c0 := (blk_cell hT o).trans ho
  have hTT : ∀ w3, Mod (fun b => b = C) w1 w3 → w3.heap[T]? = some (.cells cs t (0, 0)) ∧ w3.cell? ⟨T, o, none⟩ = some (.string (str l0)) ∧ w3.frozen? ⟨T, o, none⟩ = false := by
    intro w3 hm3
    have := hm3.obj (hm1.obj hT id) h1
    exact ⟨this, (blk_cell this o).trans ho, blk_free this o⟩
  have hkc : (n : Int) ≤ n := Int.le_refl _
  have hk0 : (0 : Int) ≤ n := by omega
  have HC := Lib.hid HC
  have HBY := Lib.hid hby
  have HCB := Lib.hid hcbt
  have HTT := Lib.hid hTT
  have H1 := Lib.hid hm1
  have HAT := Lib.hid hat
  have HN8 := Lib.hid hn8
  clear hcap hb hrow hrow' hr1 hat hc hB hS hl hT ho hm1 hc1 hSC hs1e hn hat1 hn8 hne hxs hs2 hxl hby hcbt hTT hs1
  go_enter Try.func36, Try.ntmps36
  go_upto_region 5 with (first | (go_at_call 68; refine HC.out.mono ?_; rintro e w2 ⟨rfl, hw2, hm2⟩; have c2 : w2.cell? ⟨C, 1, none⟩ = some (.bool true) := (blk_cell hw2 1).trans rfl; have HW2 := Lib.hid (And.intro hw2 hm2); clear hw2 hm2) | (go_at_call 54; refine (HBY.out w2 HW2.out.1 HW2.out.2).mono ?_; rintro e w3 ⟨rfl, hw3, hx3, hm3⟩; have hcb := HCB.out _ _ hx3; obtain ⟨hT3, c3, f3⟩ := HTT.out _ hm3; have HT3 := Lib.hid hT3; clear hT3; have HW3 := Lib.hid (And.intro hw3 hm3); clear hw3 hm3 hx3) | fail)
  clear HBY HC HTT hcv HCB c0
  go_wp2
  go_end0
  obtain ⟨hw3, hm3⟩ := HW3.out
  refine ⟨rfl, ?_, heap_setCell_row HT3.out _, Mod.setCell ((H1.out.mono (fun _ f => f.elim)).trans (hm3.mono (fun i hi => .inl hi))) (.inr (.inr rfl)) _⟩
  rw [heap_setCell_ne _ _ (fun e => h1 e.symm)]
  exact hw3

/-! ### was all read -/
theorem ended_ok {w : World} {C : Nat} {A : Option Addr} {n c at_ : Nat} {sh : Bool} (hb : w.heap[C]? = some (rdObj A n c at_ sh)) :
    Calls Try.prog 37 #[.pointer (some ⟨C, 0, none⟩)] w fun e w' => e = .returned (.bool (!sh && decide (at_ = n))) ∧ ∃ q, w' = w.drewN q := by
  have c0 := blk_cell hb 0
  have c2 := blk_cell hb 2
  have c3 := blk_cell hb 3
  simp at c0 c2 c3
  clear hb
  cases sh
  · have p : ((at_ : Int) == n) = decide (at_ = n) := by
      rw [Bool.eq_iff_iff]; simp; omega
    go_enter Try.func37, Try.ntmps37
    go_wp2
    go_quiet (fail)
    go_wp2
    go_ret
    exact ⟨by simp, _, rfl⟩
  · go_enter Try.func37, Try.ntmps37
    go_wp2
    go_quiet (fail)
    go_wp2
    go_ret
    exact ⟨by simp, _, rfl⟩

end Go.Proofs.Ytcnemhhbihhcfaa
