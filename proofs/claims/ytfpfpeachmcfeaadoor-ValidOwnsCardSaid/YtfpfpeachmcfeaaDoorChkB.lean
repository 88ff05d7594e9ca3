/-
  valid.Check$1: does the name follow the one ahead?
-/
import Derived.Test.YtfpfpeachmcfeaaDoorChkA
import Derived.Deep.Draws
namespace Go.Proofs.YtfpfpeachmcfeaaDoor
open Go.RowKit
set_option linter.unusedVariables false
set_option linter.unusedSimpArgs false
attribute [local go_sem ↓] Go.wp_at_zero Go.wp_at_succ
attribute [local go_sem] run_store_func

def nameLe (a b : Nm) : Bool := decide (a < b) || decide (a = b)
theorem str_eqs (a b : Nm) : ((str a).toList == (str b).toList) = decide (a = b) := by
  have h : ∀ x : Nm, (str x).toList = x := fun x => by rw [ByteArray.toList_eq]; rfl
  rw [h, h]
  by_cases e : a = b
  · subst e; simp
  · rw [decide_eq_false e]; simpa using e
theorem le_str (a b : Nm) : (Op.bytesLess (str a).toList (str b).toList || (str a).toList == (str b).toList) = nameLe a b := by rw [less_str, str_eqs]; rfl
set_option maxRecDepth 100000 in
theorem orderC_ok {g gi ga : Nat} {x : TV} {w : World} (h : Held g x w) {Q : Nat → Prop} {A : Option Addr} {c k : Nat} (l : List TV) (hk : k = l.length) (hl : k ≤ 1000000)
    (ci : w.cell? ⟨gi, 0, none⟩ = some (.int .i64 k)) (ca : w.cell? ⟨ga, 0, none⟩ = some (.slice A k c)) (hx : RowAt Q w A (tvCells l)) :
    Calls Tryd.prog 28 #[.pointer (some ⟨gi, 0, none⟩), .pointer (some ⟨g, 0, none⟩), .pointer (some ⟨ga, 0, none⟩)] w (Says (match l.getLast? with | some y => nameLe x.t.name y.t.name | none => false) w) := by
  have c0 : w.cell? ⟨g, 0, none⟩ = some (.string (str x.t.name)) := (blk_cell h.blk 0).trans rfl
  by_cases h0 : k = 0
  · as_aux_lemma =>
    have hl0 : l = [] := List.length_eq_zero_iff.1 (by omega)
    subst hl0
    subst h0
    clear h hx hk
    unfold Says
    go_enter Tryd.func28, Tryd.ntmps28
    go_wp2_with fail
    go_region
    all_goals
      go_wp2
      go_ret
      exact ⟨rfl, by first | exact Mod.refl _ _ | exact (Mod.refl _ _).drew⟩
  · obtain ⟨y, hy⟩ : ∃ y, l[k - 1]? = some y := ⟨_, List.getElem?_eq_getElem (by omega)⟩
    have hlast : l.getLast? = some y := by rw [List.getLast?_eq_getElem?, ← hk, hy]
    rw [hlast]
    obtain ⟨b, o, rfl, _, _, _, hc⟩ := tenAt hx hy
    have c1 : w.cell? ⟨b, o + (k - 1) * 33, none⟩ = some (.string (str y.t.name)) := hc 0 _ rfl
    have hB := le_str x.t.name y.t.name
    obtain ⟨B, hBB⟩ : ∃ B, B = nameLe x.t.name y.t.name := ⟨_, rfl⟩
    show Calls _ _ _ _ (Says (nameLe x.t.name y.t.name) w)
    rw [← hBB] at hB ⊢
    obtain ⟨s1, hs1⟩ : ∃ s, s = str x.t.name := ⟨_, rfl⟩
    obtain ⟨s2, hs2⟩ : ∃ s, s = str y.t.name := ⟨_, rfl⟩
    rw [← hs1] at c0 hB
    rw [← hs2] at c1 hB
    have p0 : 0 < k := by omega
    have p1 : (0:Int) < k := by omega
    have i1 : ((k : Int) - 1) = ((k - 1 : Nat) : Int) := by omega
    have p3 : (0:Int) ≤ ((k - 1 : Nat) : Int) := by omega
    have p4 : ((k - 1 : Nat) : Int) < k := by omega
    clear h hx hk hy hlast hc hBB hs1 hs2
    unfold Says
    go_enter Tryd.func28, Tryd.ntmps28
    go_wp2_with fail
    go_region
    all_goals
      go_wp2
      go_ret
      exact ⟨by first | rfl | simp [hB] | (rw [← hB]; rfl), by first | exact Mod.refl _ _ | exact (Mod.refl _ _).drew⟩

end Go.Proofs.YtfpfpeachmcfeaaDoor
