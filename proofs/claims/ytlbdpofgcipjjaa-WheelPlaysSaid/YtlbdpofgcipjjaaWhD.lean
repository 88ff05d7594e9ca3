/-
  Package wheel, fourth part: cmp.Compare, cmp.Or, the closure of Tick.
-/
import Derived.Test.YtlbdpofgcipjjaaWhC
namespace Go.Proofs.Ytlbdpofgcipjjaa
open Go.RowKit Go.MapKept Go.ChangeMaps
set_option linter.unusedVariables false

def cmpI (x y : Int) : Int := if x < y then -1 else if y < x then 1 else 0
theorem nan32 (x : Int) (w : World) : Calls Try.prog 27 #[.int .u32 x] w fun e w' => e = .returned (.bool false) ∧ w' = w := by
  go_enter Try.func27, Try.ntmps27
  go_wp2
  go_ret
  exact ⟨rfl, rfl⟩
theorem nan64 (x : Int) (w : World) : Calls Try.prog 28 #[.int .i64 x] w fun e w' => e = .returned (.bool false) ∧ w' = w := by
  go_enter Try.func28, Try.ntmps28
  go_wp2
  go_ret
  exact ⟨rfl, rfl⟩
theorem compare32 (x y : Int) (w : World) : Calls Try.prog 23 #[.int .u32 x, .int .u32 y] w fun e w' => e = .returned (.int .i64 (cmpI x y)) ∧ w' = w := by
  have h1 := fun x => nan32 x w
  unfold cmpI
  by_cases c1 : x < y
  · rw [if_pos c1]
    go_enter Try.func23, Try.ntmps23
    go_wp2_with (go_at_call 27; refine (h1 _).mono ?_; rintro e w1 ⟨rfl, rfl⟩)
    go_ret
    exact ⟨rfl, rfl⟩
  · rw [if_neg c1]
    by_cases c2 : y < x
    · rw [if_pos c2]
      go_enter Try.func23, Try.ntmps23
      go_wp2_with (go_at_call 27; refine (h1 _).mono ?_; rintro e w1 ⟨rfl, rfl⟩)
      go_ret
      exact ⟨rfl, rfl⟩
    · rw [if_neg c2]
      go_enter Try.func23, Try.ntmps23
      go_wp2_with (go_at_call 27; refine (h1 _).mono ?_; rintro e w1 ⟨rfl, rfl⟩)
      go_ret
      exact ⟨rfl, rfl⟩
theorem compare64 (x y : Int) (w : World) : Calls Try.prog 24 #[.int .i64 x, .int .i64 y] w fun e w' => e = .returned (.int .i64 (cmpI x y)) ∧ w' = w := by
  have h1 := fun x => nan64 x w
  unfold cmpI
  by_cases c1 : x < y
  · rw [if_pos c1]
    go_enter Try.func24, Try.ntmps24
    go_wp2_with (go_at_call 28; refine (h1 _).mono ?_; rintro e w1 ⟨rfl, rfl⟩)
    go_ret
    exact ⟨rfl, rfl⟩
  · rw [if_neg c1]
    by_cases c2 : y < x
    · rw [if_pos c2]
      go_enter Try.func24, Try.ntmps24
      go_wp2_with (go_at_call 28; refine (h1 _).mono ?_; rintro e w1 ⟨rfl, rfl⟩)
      go_ret
      exact ⟨rfl, rfl⟩
    · rw [if_neg c2]
      go_enter Try.func24, Try.ntmps24
      go_wp2_with (go_at_call 28; refine (h1 _).mono ?_; rintro e w1 ⟨rfl, rfl⟩)
      go_ret
      exact ⟨rfl, rfl⟩
/-- cmp.Or of two numbers that lie in a row. -/
theorem or_two (x y : Int) {w : World} {b c : Nat} (h0 : w.cell? ⟨b, 0, none⟩ = some (.int .i64 x)) (h1 : w.cell? ⟨b, 1, none⟩ = some (.int .i64 y)) : Calls Try.prog 22 #[.slice (some ⟨b, 0, none⟩) 2 c] w fun e w' => e = .returned (.int .i64 (if x ≠ 0 then x else y)) ∧ w' = w := by
  obtain ⟨r, hr⟩ : ∃ r, r = (if x ≠ 0 then x else y) := ⟨_, rfl⟩
  rw [← hr]
  go_enter Try.func22, Try.ntmps22
  go_wp2
  go_loopw [8] (fun i wr => ∃ k : Nat, i = .int .i64 k ∧ k ≤ 2 ∧ (0 < k → x = 0) ∧ (1 < k → y = 0) ∧ w = wr) (fun i _ => 2 - (intOf i).toNat)
  case atStart => exact ⟨0, rfl, by omega, fun f => by omega, fun f => by omega, rfl⟩
  case round =>
    obtain ⟨k, rfl, hk, hx, hy, rfl⟩ := hrel
    rcases (show k = 0 ∨ k = 1 ∨ k = 2 by omega) with rfl | rfl | rfl
    · by_cases hx0 : x = 0
      · subst hx0
        go_wp2
        exact ⟨⟨1, by go_num, by omega, by simp, by simp, by first | rfl | trivial⟩, by simp [intOf]⟩
      · rw [if_pos hx0] at hr
        subst hr
        go_wp2
        go_ret
        exact ⟨rfl, rfl⟩
    · have hx0 := hx (by omega)
      subst hx0
      rw [if_neg (by simp)] at hr
      subst hr
      by_cases hy0 : r = 0
      · subst hy0
        go_wp2
        exact ⟨⟨2, by go_num, by omega, by simp, by simp, by first | rfl | trivial⟩, by simp [intOf]⟩
      · go_wp2
        go_ret
        exact ⟨rfl, rfl⟩
    · have hx0 := hx (by omega)
      have hy0 := hy (by omega)
      subst hx0
      subst hy0
      rw [if_neg (by simp)] at hr
      subst hr
      go_wp2
      go_ret
      exact ⟨rfl, rfl⟩

end Go.Proofs.Ytlbdpofgcipjjaa
