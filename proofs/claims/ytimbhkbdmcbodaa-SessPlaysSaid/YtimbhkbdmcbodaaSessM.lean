/-
  The order of sessions' keys: cmp.Compare, cmp.Or, the closure of Table.All.
-/
import Derived.Test.YtimbhkbdmcbodaaKeysK
import Derived.Deep.RegionHeld3
import Derived.Deep.DrawnRows
import Derived.Sort.Grow
namespace Go.Proofs.Ytimbhkbdmcbodaa
open Go.RowKit Go.MapKept Go.ChangeMaps
open Go.Sort (grow alloc_eq_grow grow_grow)
set_option linter.unusedVariables false

def cmpI (x y : Int) : Int := if x < y then -1 else if y < x then 1 else 0
theorem nan8 (x : Int) (w : World) : Calls Try.prog 47 #[.int .u8 x] w fun e w' => e = .returned (.bool false) ∧ w' = w := by
  go_enter Try.func47, Try.ntmps47
  go_wp2
  go_ret
  exact ⟨rfl, rfl⟩
theorem compare8 (x y : Int) (w : World) : Calls Try.prog 34 #[.int .u8 x, .int .u8 y] w fun e w' => e = .returned (.int .i64 (cmpI x y)) ∧ w' = w := by
  have h1 := fun x => nan8 x w
  unfold cmpI
  by_cases c1 : x < y
  · rw [if_pos c1]
    go_enter Try.func34, Try.ntmps34
    go_wp2_with (go_at_call 47; refine (h1 _).mono ?_; rintro e w1 ⟨rfl, rfl⟩)
    go_ret
    exact ⟨rfl, rfl⟩
  · rw [if_neg c1]
    by_cases c2 : y < x
    · rw [if_pos c2]
      go_enter Try.func34, Try.ntmps34
      go_wp2_with (go_at_call 47; refine (h1 _).mono ?_; rintro e w1 ⟨rfl, rfl⟩)
      go_ret
      exact ⟨rfl, rfl⟩
    · rw [if_neg c2]
      go_enter Try.func34, Try.ntmps34
      go_wp2_with (go_at_call 47; refine (h1 _).mono ?_; rintro e w1 ⟨rfl, rfl⟩)
      go_ret
      exact ⟨rfl, rfl⟩
theorem nan32 (x : Int) (w : World) : Calls Try.prog 48 #[.int .u32 x] w fun e w' => e = .returned (.bool false) ∧ w' = w := by
  go_enter Try.func48, Try.ntmps48
  go_wp2
  go_ret
  exact ⟨rfl, rfl⟩
theorem compare32 (x y : Int) (w : World) : Calls Try.prog 35 #[.int .u32 x, .int .u32 y] w fun e w' => e = .returned (.int .i64 (cmpI x y)) ∧ w' = w := by
  have h1 := fun x => nan32 x w
  unfold cmpI
  by_cases c1 : x < y
  · rw [if_pos c1]
    go_enter Try.func35, Try.ntmps35
    go_wp2_with (go_at_call 48; refine (h1 _).mono ?_; rintro e w1 ⟨rfl, rfl⟩)
    go_ret
    exact ⟨rfl, rfl⟩
  · rw [if_neg c1]
    by_cases c2 : y < x
    · rw [if_pos c2]
      go_enter Try.func35, Try.ntmps35
      go_wp2_with (go_at_call 48; refine (h1 _).mono ?_; rintro e w1 ⟨rfl, rfl⟩)
      go_ret
      exact ⟨rfl, rfl⟩
    · rw [if_neg c2]
      go_enter Try.func35, Try.ntmps35
      go_wp2_with (go_at_call 48; refine (h1 _).mono ?_; rintro e w1 ⟨rfl, rfl⟩)
      go_ret
      exact ⟨rfl, rfl⟩
theorem nan16 (x : Int) (w : World) : Calls Try.prog 49 #[.int .u16 x] w fun e w' => e = .returned (.bool false) ∧ w' = w := by
  go_enter Try.func49, Try.ntmps49
  go_wp2
  go_ret
  exact ⟨rfl, rfl⟩
theorem compare16 (x y : Int) (w : World) : Calls Try.prog 36 #[.int .u16 x, .int .u16 y] w fun e w' => e = .returned (.int .i64 (cmpI x y)) ∧ w' = w := by
  have h1 := fun x => nan16 x w
  unfold cmpI
  by_cases c1 : x < y
  · rw [if_pos c1]
    go_enter Try.func36, Try.ntmps36
    go_wp2_with (go_at_call 49; refine (h1 _).mono ?_; rintro e w1 ⟨rfl, rfl⟩)
    go_ret
    exact ⟨rfl, rfl⟩
  · rw [if_neg c1]
    by_cases c2 : y < x
    · rw [if_pos c2]
      go_enter Try.func36, Try.ntmps36
      go_wp2_with (go_at_call 49; refine (h1 _).mono ?_; rintro e w1 ⟨rfl, rfl⟩)
      go_ret
      exact ⟨rfl, rfl⟩
    · rw [if_neg c2]
      go_enter Try.func36, Try.ntmps36
      go_wp2_with (go_at_call 49; refine (h1 _).mono ?_; rintro e w1 ⟨rfl, rfl⟩)
      go_ret
      exact ⟨rfl, rfl⟩
/-- The first of a row that is not zero. -/
def orI : List Int → Int
  | [] => 0
  | x :: l => if x ≠ 0 then x else orI l
theorem orI_drop : ∀ (l : List Int) (k : Nat), (∀ i x, i < k → l[i]? = some x → x = 0) → orI l = orI (l.drop k)
  | [], k, _ => by simp
  | x :: l, 0, _ => by simp
  | x :: l, k + 1, h => by
    have h0 := h 0 x (by omega) rfl
    subst h0
    simp only [orI, ne_eq, not_true, if_false, List.drop_succ_cons]
    exact orI_drop l k (fun i y hi hy => h (i + 1) y (by omega) (by simpa using hy))
/-- cmp.Or of numbers that lie in a row. -/
theorem or_row (l : List Int) (hl : l.length < 1000) {w : World} {b c : Nat} (h0 : ∀ (i : Nat) x, l[i]? = some x → w.cell? ⟨b, i, none⟩ = some (.int .i64 x)) : Calls Try.prog 33 #[.slice (some ⟨b, 0, none⟩) l.length c] w fun e w' => e = .returned (.int .i64 (orI l)) ∧ w' = w := by
  obtain ⟨r, hr⟩ : ∃ r, r = orI l := ⟨_, rfl⟩
  rw [← hr]
  obtain ⟨n, hn⟩ : ∃ n, n = l.length := ⟨_, rfl⟩
  rw [← hn] at hl ⊢
  have HN := Lib.hid hn
  have HR := Lib.hid hr
  clear hn hr
  go_enter Try.func33, Try.ntmps33
  go_wp2
  go_loopw [8] (fun i wr => ∃ k : Nat, i = .int .i64 k ∧ k ≤ n ∧ (∀ i x, i < k → l[i]? = some x → x = 0) ∧ w = wr) (fun i _ => n - (intOf i).toNat)
  case atStart => exact ⟨0, rfl, by omega, fun _ _ f => absurd f (by omega), rfl⟩
  case round =>
    obtain ⟨k, rfl, hk, hx, rfl⟩ := hrel
    have hd := orI_drop l k hx
    have hn := HN.out
    have hr := HR.out
    by_cases hkn : k < n
    · obtain ⟨x, hxk⟩ : ∃ x, l[k]? = some x := ⟨_, List.getElem?_eq_getElem (by omega)⟩
      have hc := h0 k x hxk
      have hdk : l.drop k = x :: l.drop (k + 1) := by
        have := List.drop_eq_getElem_cons (l := l) (i := k) (by omega)
        rw [List.getElem?_eq_getElem (by omega)] at hxk
        cases hxk
        exact this
      rw [hdk] at hd
      have hx' : x = 0 → ∀ i y, i < k + 1 → l[i]? = some y → y = 0 := fun hx0 i y hi hy => by
        rcases (show i < k ∨ i = k by omega) with h | rfl
        · exact hx i y h hy
        · rw [hxk] at hy; cases hy; exact hx0
      clear hdk hxk hx h0 hn
      by_cases hx0 : x = 0
      · have HX := Lib.hid (hx' hx0)
        subst hx0
        clear hx' hd hr
        go_wp2
        exact ⟨⟨k + 1, by go_num, by omega, HX.out, by first | rfl | trivial⟩, by simp [intOf]; omega⟩
      · simp only [orI, ne_eq, hx0, not_false_eq_true, if_true] at hd
        rw [hd] at hr
        subst hr
        clear hd hx'
        go_wp2
        go_ret
        exact ⟨rfl, rfl⟩
    · rw [List.drop_eq_nil_of_le (by omega)] at hd
      rw [hd] at hr
      simp only [orI] at hr
      subst hr
      clear hd hn hx h0
      go_wp2
      go_ret
      exact ⟨rfl, rfl⟩

/-- How two keys lie. -/
def cfk (x y : Key) : Int := orI [cmpI x.proto y.proto, cmpI x.pt.ip y.pt.ip, cmpI x.pt.port y.pt.port]
attribute [local go_sem ↓] Go.wp_at_zero Go.wp_at_succ
set_option maxHeartbeats 1600000 in
theorem closureK_ok (x y : Key) (w : World) : Calls Try.prog 32 #[.agg x.cells.toArray, .agg y.cells.toArray] w fun e w' => e = .returned (.int .i64 (cfk x y)) ∧ ∃ q os', w' = grow (w.drewN q) os' := by
  have h1 := fun W => compare8 x.proto y.proto W
  have h2 := fun W => compare32 x.pt.ip y.pt.ip W
  have h3 := fun W => compare16 x.pt.port y.pt.port W
  unfold cfk Key.cells
  generalize cmpI x.proto y.proto = c1 at h1 ⊢
  generalize cmpI x.pt.ip y.pt.ip = c2 at h2 ⊢
  generalize cmpI x.pt.port y.pt.port = c3 at h3 ⊢
  generalize x.proto = x1 at *
  generalize x.pt.ip = x2 at *
  generalize x.pt.port = x3 at *
  generalize y.proto = y1 at *
  generalize y.pt.ip = y2 at *
  generalize y.pt.port = y3 at *
  obtain ⟨r, hr⟩ : ∃ r, r = orI [c1, c2, c3] := ⟨_, rfl⟩
  rw [← hr]
  have HR := Lib.hid hr
  clear hr
  go_enter Try.func32, Try.ntmps32
  go_wp2
  have h4 : ∀ (o1 o2 : Obj) (T : TypeId), Calls Try.prog 33 #[.slice (some ⟨w.heap.size + 1 + 1, 0, none⟩) 3 3] ((((w.alloc o1).alloc o2).alloc (.cells #[.int .i64 c1, .int .i64 c2, .int .i64 c3] T)).drew) fun e w' => e = .returned (.int .i64 (orI [c1, c2, c3])) ∧ w' = (((w.alloc o1).alloc o2).alloc (.cells #[.int .i64 c1, .int .i64 c2, .int .i64 c3] T)).drew :=
    fun o1 o2 T => or_row [c1, c2, c3] (by simp) (c := 3) (w := (((w.alloc o1).alloc o2).alloc (.cells #[.int .i64 c1, .int .i64 c2, .int .i64 c3] T)).drew) (fun i x hi => by
      rw [blk_cell (w := (((w.alloc o1).alloc o2).alloc (.cells #[.int .i64 c1, .int .i64 c2, .int .i64 c3] T)).drew) (at32 w _ _ _) i]
      have hl := (List.getElem?_eq_some_iff.1 hi).1
      simp only [List.length_cons, List.length_nil] at hl
      rcases (show i = 0 ∨ i = 1 ∨ i = 2 by omega) with rfl | rfl | rfl <;> (cases hi; rfl))
  rw [← HR.out] at h4
  have H1 := Lib.hid h1
  have H2 := Lib.hid h2
  have H3 := Lib.hid h3
  have H4 := Lib.hid h4
  clear h1 h2 h3 h4
  go_region_held3 (fun w' => w'.cell? ⟨w.heap.size, 0, none⟩ = some (.int .u8 (x1 : Int)) ∧ w'.cell? ⟨w.heap.size, 1, none⟩ = some (.int .u32 (x2 : Int)) ∧ w'.cell? ⟨w.heap.size, 2, none⟩ = some (.int .u16 (x3 : Int)) ∧ w'.cell? ⟨w.heap.size + 1, 0, none⟩ = some (.int .u8 (y1 : Int)) ∧ w'.cell? ⟨w.heap.size + 1, 1, none⟩ = some (.int .u32 (y2 : Int)) ∧ w'.cell? ⟨w.heap.size + 1, 2, none⟩ = some (.int .u16 (y3 : Int))) (go_keep)
    (first | (go_at_call 33; refine (H4.out _ _ _).mono ?_; rintro e w1 ⟨rfl, rfl⟩) | (go_at_call 34; refine (H1.out _).mono ?_; rintro e w1 ⟨rfl, rfl⟩) | (go_at_call 35; refine (H2.out _).mono ?_; rintro e w1 ⟨rfl, rfl⟩) | (go_at_call 36; refine (H3.out _).mono ?_; rintro e w1 ⟨rfl, rfl⟩))
  all_goals go_wp2
  all_goals go_ret
  all_goals exact ⟨rfl, 1, _, by rw [alloc_eq_grow, alloc_eq_grow, alloc_eq_grow, grow_grow, grow_grow]; rfl⟩

/-- maps.Keys: an iterator with the map in a box of its own. -/
theorem keysFn_ok (b : Nat) (w : World) : Calls Try.prog 31 #[.map (some b)] w fun e w' => e = .returned (.func (.func 46) #[] #[.pointer (some ⟨w.heap.size, 0, none⟩)]) ∧ w' = w.alloc (.cells #[.map (some b)] 61) := by
  go_enter Try.func31, Try.ntmps31
  go_wp2
  go_ret
  exact ⟨rfl, rfl⟩

end Go.Proofs.Ytimbhkbdmcbodaa
