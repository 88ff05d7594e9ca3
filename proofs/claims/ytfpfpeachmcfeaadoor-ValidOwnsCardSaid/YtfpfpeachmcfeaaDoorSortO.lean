/-
  slices.Sort, slices.Sorted over slices.Values at lists of at most twelve numbers.
-/
import Derived.Test.YtfpfpeachmcfeaaDoorSortN
namespace Go.Proofs.YtfpfpeachmcfeaaDoor
open Go.RowKit
set_option linter.unusedVariables false
set_option linter.unusedSimpArgs false
attribute [local go_sem ↓] Go.wp_at_zero Go.wp_at_succ

def LenP (w : World) : Ending → World → Prop := fun e w' => (∃ z : Int, e = .returned (.int .i64 z) ∧ 0 ≤ z ∧ z ≤ 8) ∧ w' = w
set_option maxRecDepth 100000 in
theorem len64_ok (n : Nat) (hn : n ≤ 16) (w : World) : Calls Tryd.prog 80 #[.int .u64 (n : Int)] w (LenP w) := by
  obtain ⟨QQ, hQQ⟩ : ∃ QQ, QQ = LenP w := ⟨_, rfl⟩
  have h : n = 0 ∨ n = 1 ∨ n = 2 ∨ n = 3 ∨ n = 4 ∨ n = 5 ∨ n = 6 ∨ n = 7 ∨ n = 8 ∨ n = 9 ∨ n = 10 ∨ n = 11 ∨ n = 12 ∨ n = 13 ∨ n = 14 ∨ n = 15 ∨ n = 16 := by omega
  rcases h with rfl | rfl | rfl | rfl | rfl | rfl | rfl | rfl | rfl | rfl | rfl | rfl | rfl | rfl | rfl | rfl | rfl
  all_goals
    go_enter Tryd.func80, Tryd.ntmps80
    go_wp2
    go_ret
    exact ⟨⟨_, rfl, by decide +kernel, by decide +kernel⟩, rfl⟩
theorem bitsLen_ok (n : Nat) (hn : n ≤ 16) (w : World) : Calls Tryd.prog 69 #[.int .u64 (n : Int)] w (LenP w) := by
  have H := Lib.hid (len64_ok n hn w)
  have c1 : IntKind.u64.wrap (n : Int) = n := by simp only [IntKind.wrap, IntKind.bits, IntKind.signed]; simp; omega
  go_enter Tryd.func69, Tryd.ntmps69
  go_wp2_with (go_at_call 80; refine H.out.mono ?_; rintro e w1 ⟨⟨z, rfl, h1, h2⟩, hw⟩; have hw' := hw.symm; clear hw; subst hw'; have HZ := Lib.hid (And.intro h1 h2); clear h1 h2)
  go_ret
  exact ⟨⟨_, rfl, HZ.out.1, HZ.out.2⟩, rfl⟩


set_option maxRecDepth 100000 in
set_option maxHeartbeats 2000000 in
theorem pdq_short {base : Nat} {w : World} {l : List Nat} {g n cap : Nat} (h : OwnN base w (.slice (some ⟨g, 0, none⟩) n cap) l) (hn : n = l.length) (h12 : n ≤ 12) (z : Int) :
    Calls Tryd.prog 68 #[.slice (some ⟨g, 0, none⟩) n cap, .int .i64 0, .int .i64 n, .int .i64 z] w (SortP base g n cap w l) := by
  have HI := Lib.hid (insertion_ok h hn (by omega))
  have p1 : (n : Int) ≤ 12 := by omega
  clear h hn h12
  go_enter Tryd.func68, Tryd.ntmps68
  go_wp2
  go_loopw [1, 2] (fun i j wr => i = .int .i64 0 ∧ j = .int .i64 n ∧ wr = w) (fun i j _ => 0)
  case atStart => exact ⟨rfl, rfl, rfl⟩
  case round =>
    obtain ⟨rfl, rfl, hrel⟩ := hrel
    have hrel' := hrel.symm
    clear hrel
    subst hrel'
    go_wp2_with (go_at_call 70; refine HI.out.mono ?_; rintro e w1 ⟨rfl, hp⟩)
    (try simp only [Exit.inBlock, Exit.then]); refine bodyPost_ret (results_none rfl _ _ _) rfl ?_
    exact ⟨rfl, hp⟩

/-! ### the sorted list, plain -/
def nSort (l : List Nat) : List Nat := l.mergeSort (fun x y => decide (x ≤ y))
theorem nSort_perm (l : List Nat) : (nSort l).Perm l := List.mergeSort_perm l _
theorem nSort_sorted (l : List Nat) : (nSort l).Pairwise (· ≤ ·) := by
  have : (nSort l).Pairwise (fun x y => decide (x ≤ y) = true) := by
    apply List.pairwise_mergeSort
    · intro a b c h1 h2; simp at *; omega
    · intro a b; simp; omega
  exact this.imp (fun h => by simpa using h)
theorem nSort_eq {l m : List Nat} (hp : m.Perm l) (hs : m.Pairwise (· ≤ ·)) : m = nSort l :=
  List.Perm.eq_of_pairwise (le := fun x y => x ≤ y) (fun a b _ _ h1 h2 => Nat.le_antisymm h1 h2) hs (nSort_sorted l) (hp.trans (nSort_perm l).symm)
theorem nSort_len (l : List Nat) : (nSort l).length = l.length := (nSort_perm l).length_eq

/-! ### nothing to sort -/
theorem insertion_nil (w : World) : Calls Tryd.prog 70 #[.slice none 0 0, .int .i64 0, .int .i64 0] w fun e w' => e = .returned (.tuple #[]) ∧ w' = w := by
  go_enter Tryd.func70, Tryd.ntmps70
  go_wp2
  go_loopw [6] (fun j wr => j = .int .i64 1 ∧ wr = w) (fun j _ => 0)
  case atStart => exact ⟨rfl, rfl⟩
  case round =>
    obtain ⟨rfl, hrel⟩ := hrel
    have hrel' := hrel.symm
    clear hrel
    subst hrel'
    go_wp2
    go_end0
    exact ⟨rfl, rfl⟩
theorem pdq_nil (w : World) (z : Int) : Calls Tryd.prog 68 #[.slice none 0 0, .int .i64 0, .int .i64 0, .int .i64 z] w fun e w' => e = .returned (.tuple #[]) ∧ w' = w := by
  have HI := Lib.hid insertion_nil
  go_enter Tryd.func68, Tryd.ntmps68
  go_wp2
  go_loopw [1, 2] (fun i j wr => i = .int .i64 0 ∧ j = .int .i64 0 ∧ wr = w) (fun i j _ => 0)
  case atStart => exact ⟨rfl, rfl, rfl⟩
  case round =>
    obtain ⟨rfl, rfl, hrel⟩ := hrel
    have hrel' := hrel.symm
    clear hrel
    subst hrel'
    go_wp2_with (go_at_call 70; refine (HI.out _).mono ?_; rintro e w1 ⟨rfl, hw⟩; have hw' := hw.symm; clear hw; subst hw')
    (try simp only [Exit.inBlock, Exit.then]); refine bodyPost_ret (results_none rfl _ _ _) rfl ?_
    exact ⟨rfl, rfl⟩

/-! ### Sort -/
theorem OwnN.cases {base : Nat} {w : World} {v : Value} {l : List Nat} (h : OwnN base w v l) : (v = .slice none 0 0 ∧ l = []) ∨ ∃ g cap, v = .slice (some ⟨g, 0, none⟩) l.length cap ∧ base ≤ g := by
  rcases h.2 with ⟨h1, h0⟩ | ⟨g, cap, cur, rfl, hb, _⟩
  · exact .inl ⟨h1, List.length_eq_zero_iff.1 h0⟩
  · exact .inr ⟨g, cap, rfl, hb⟩
theorem sortN_ok {base : Nat} {w : World} {v : Value} {l : List Nat} (h : OwnN base w v l) (h12 : l.length ≤ 12) :
    Calls Tryd.prog 63 #[v] w fun e w' => e = .returned (.tuple #[]) ∧ Mod (fun b => v.ownBlock = some b) w w' ∧ OwnN base w' v (nSort l) := by
  have HB := Lib.hid bitsLen_ok
  rcases h.cases with ⟨rfl, rfl⟩ | ⟨g, cap, rfl, hb⟩
  · have HP := Lib.hid pdq_nil
    have H0 := Lib.hid h
    clear h h12
    go_enter Tryd.func63, Tryd.ntmps63
    go_wp2_with (first | (go_at_call 69; refine (HB.out 0 (by omega) _).mono ?_; rintro e w1 ⟨⟨z, rfl, _, _⟩, hw⟩; have hw' := hw.symm; clear hw; subst hw') | (go_at_call 68; refine (HP.out _ _).mono ?_; rintro e w1 ⟨rfl, hw⟩; have hw' := hw.symm; clear hw; subst hw'))
    go_end0
    exact ⟨rfl, Mod.refl _ _, by rw [show nSort [] = [] from List.mergeSort_nil]; exact H0.out⟩
  · obtain ⟨n, hn⟩ : ∃ n, n = l.length := ⟨_, rfl⟩
    rw [← hn] at h h12 ⊢
    have HP := Lib.hid (fun z => pdq_short h hn h12 z)
    have c1 : IntKind.u64.wrap (n : Int) = n := by simp only [IntKind.wrap, IntKind.bits, IntKind.signed]; simp; omega
    have h16 : n ≤ 16 := by omega
    have HB2 := Lib.hid (HB.out n h16)
    clear h hn h12 HB h16
    go_enter Tryd.func63, Tryd.ntmps63
    go_wp2_with (first | (go_at_call 69; refine (HB2.out _).mono ?_; rintro e w1 ⟨⟨z, rfl, _, _⟩, hw⟩; have hw' := hw.symm; clear hw; subst hw') | (go_at_call 68; refine (HP.out _).mono ?_; rintro e w1 ⟨rfl, hm, l', hp, hs, ho⟩))
    go_end0
    refine ⟨rfl, hm.mono (fun b hb => by rw [hb]; rfl), ?_⟩
    rw [← nSort_eq hp hs]
    exact ho

/-! ### Sorted over Values -/
theorem Mod.of_below {F : Nat → Prop} {w w' : World} (h : Below w.heap.size w w') : Mod F w w' := ⟨h.os, h.tape, h.output, h.size, fun k hk _ => h.block k hk⟩
theorem enterVal1 : ∀ args w, (callFunc 64 args).run Tryd.prog w = .ok (.enter 64 args) w := enters_of Tryd.func64 (by kernel_rfl) rfl
set_option maxHeartbeats 1000000 in
theorem sortedVals_ok {A : Option Addr} {c : Nat} (L : List Nat) (w : World) (hx : RowAt (fun b => b < w.heap.size) w A (numCells L)) (h12 : L.length ≤ 12) :
    Calls Tryd.prog 56 #[.func (.func 64) #[] #[.pointer (some ⟨w.heap.size, 0, none⟩)]] (w.alloc (.cells #[.slice A L.length c] 26)) fun e w' =>
      ∃ v, e = .returned v ∧ OwnN w.heap.size w' v (nSort L) ∧ Mod No w w' := by
  have hx' : RowAt (fun b => b < (w.alloc (.cells #[.slice A L.length c] 26)).heap.size) (w.alloc (.cells #[.slice A L.length c] 26)) A (numCells L) := ((hx.keeps (((Mod.refl No w).alloc _).keeps (fun _ _ _ f => f))).mono (fun j _ hj => by simp; omega))
  have hseq := values_gives Fence.wide 3 trivial rfl (by omega) w.heap.size A c L (w.alloc (.cells #[.slice A L.length c] 26)) (by simp) (by simp) hx' (by omega)
  have hcol := (callsIn_wide (n := 5)).1 (collectN Fence.wide 5 trivial trivial rfl (by omega) _ _ trivial enterVal1 (fun ss => ss = L) _ (by omega) _ hseq)
  have HC := Lib.hid hcol
  have HSo := Lib.hid (fun base w v l => @sortN_ok base w v l)
  clear hcol hseq hx hx'
  go_enter Tryd.func56, Tryd.ntmps56
  go_wp2_with (first | (go_at_call 62; refine HC.out.mono ?_; rintro e w1 ⟨v, ss, rfl, rfl, hrow, hb⟩; have HW := Lib.hid (And.intro hrow hb); clear hrow hb) | (go_at_call 63; refine (HSo.out _ _ _ _ HW.out.1 h12).mono ?_; rintro e w2 ⟨rfl, hm, ho⟩))
  go_ret
  refine ⟨v, rfl, ⟨ho.1, ?_⟩, ?_⟩
  · rcases ho.2 with h1 | ⟨g, cap, cur, e, hb, h2⟩
    · exact .inl h1
    · exact .inr ⟨g, cap, cur, e, by simp at hb; omega, h2⟩
  have hb := HW.out.2
  have hm1 : Mod No w w1 := ((Mod.refl No w).alloc _).trans (Mod.of_below hb)
  refine hm1.trans' hm (fun i hi hj => ?_)
  have := (World.ownsRow.lt HW.out.1 i hj).1
  simp at this
  omega

end Go.Proofs.YtfpfpeachmcfeaaDoor
