/-
  Package wheel, fifth part: the closure of Tick.
-/
import Derived.Test.YtlbdpofgcipjjaaWhD
import Derived.Deep.RegionHeld3
import Derived.Deep.DrawnRows
import Derived.Shelf.SlSortCmp.NoneTotal
namespace Go.Proofs.Ytlbdpofgcipjjaa
open Go.RowKit Go.MapKept Go.ChangeMaps
open Go.Sort (grow alloc_eq_grow grow_grow)
set_option linter.unusedVariables false

def cfd (x y : Due) : Int := if cmpI x.2 y.2 ≠ 0 then cmpI x.2 y.2 else cmpI x.1 y.1
theorem cfd_lt (x y : Due) : decide (cfd x y < 0) = decide (dlt x y) := by
  rw [decide_eq_decide]
  unfold cfd cmpI dlt
  obtain ⟨x1, x2⟩ := x
  obtain ⟨y1, y2⟩ := y
  simp only
  constructor
  · intro h
    split at h <;> split at h <;> (try split at h) <;> (try split at h) <;> omega
  · intro h
    rcases h with h | ⟨h, h2⟩
    · have : (x2 : Int) < y2 := by omega
      simp [this]
    · subst h
      simp [h2]
attribute [local go_sem ↓] Go.wp_at_zero Go.wp_at_succ
set_option maxHeartbeats 1600000 in
theorem closure_ok (x y : Due) (w : World) : Calls Try.prog 21 #[.agg #[.int .i64 x.1, .int .u32 (x.2 : Int)], .agg #[.int .i64 y.1, .int .u32 (y.2 : Int)]] w fun e w' => e = .returned (.int .i64 (cfd x y)) ∧ ∃ q os', w' = grow (w.drewN q) os' := by
  have h1 := fun W => compare32 x.2 y.2 W
  have h2 := fun W => compare64 x.1 y.1 W
  unfold cfd
  generalize cmpI x.2 y.2 = c1 at h1 ⊢
  generalize cmpI x.1 y.1 = c2 at h2 ⊢
  generalize x.1 = x1 at *
  generalize x.2 = x2 at *
  generalize y.1 = y1 at *
  generalize y.2 = y2 at *
  obtain ⟨r, hr⟩ : ∃ r, r = (if c1 ≠ 0 then c1 else c2) := ⟨_, rfl⟩
  rw [← hr]
  have HR := Lib.hid hr
  clear hr
  go_enter Try.func21, Try.ntmps21
  go_wp2
  have h3 : ∀ (o1 o2 : Obj) (T : TypeId), Calls Try.prog 22 #[.slice (some ⟨w.heap.size + 1 + 1, 0, none⟩) 2 2] ((((w.alloc o1).alloc o2).alloc (.cells #[.int .i64 c1, .int .i64 c2] T)).drew) fun e w' => e = .returned (.int .i64 (if c1 ≠ 0 then c1 else c2)) ∧ w' = (((w.alloc o1).alloc o2).alloc (.cells #[.int .i64 c1, .int .i64 c2] T)).drew :=
    fun o1 o2 T => or_two c1 c2 (w := (((w.alloc o1).alloc o2).alloc (.cells #[.int .i64 c1, .int .i64 c2] T)).drew) ((blk_cell (w := (((w.alloc o1).alloc o2).alloc (.cells #[.int .i64 c1, .int .i64 c2] T)).drew) (at32 w _ _ _) 0).trans rfl) ((blk_cell (w := (((w.alloc o1).alloc o2).alloc (.cells #[.int .i64 c1, .int .i64 c2] T)).drew) (at32 w _ _ _) 1).trans rfl)
  rw [← HR.out] at h3
  have H3 := Lib.hid h3
  have H1 := Lib.hid h1
  have H2 := Lib.hid h2
  clear h1 h2 h3
  go_region_held3 (fun w' => w'.cell? ⟨w.heap.size, 0, none⟩ = some (.int .i64 x1) ∧ w'.cell? ⟨w.heap.size, 1, none⟩ = some (.int .u32 (x2 : Int)) ∧ w'.cell? ⟨w.heap.size + 1, 0, none⟩ = some (.int .i64 y1) ∧ w'.cell? ⟨w.heap.size + 1, 1, none⟩ = some (.int .u32 (y2 : Int))) (go_keep)
    (first | (go_at_call 22; refine (H3.out _ _ _).mono ?_; rintro e w1 ⟨rfl, rfl⟩) | (go_at_call 23; refine (H1.out _).mono ?_; rintro e w1 ⟨rfl, rfl⟩) | (go_at_call 24; refine (H2.out _).mono ?_; rintro e w1 ⟨rfl, rfl⟩))
  all_goals go_wp2
  all_goals go_ret
  all_goals exact ⟨rfl, 1, _, by rw [alloc_eq_grow, alloc_eq_grow, alloc_eq_grow, grow_grow, grow_grow]; rfl⟩

end Go.Proofs.Ytlbdpofgcipjjaa
