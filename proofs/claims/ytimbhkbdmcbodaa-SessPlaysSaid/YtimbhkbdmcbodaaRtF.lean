/-
  lychhelp.Place, lychhelp.Sessions at lists that are the same.
-/
import Derived.Test.YtimbhkbdmcbodaaRtE
namespace Go.Proofs.Ytimbhkbdmcbodaa
open Go.RowKit
set_option linter.unusedVariables false
set_option linter.unusedSimpArgs false
attribute [local go_sem ↓] Go.wp_at_zero Go.wp_at_succ

theorem int_dec {p : Prop} [Decidable p] (h : p) : decide p = true := decide_eq_true h
theorem int_ndec {p : Prop} [Decidable p] (h : ¬ p) : decide p = false := decide_eq_false h
def PlaceP (n : Nat) (w : World) (e : Ending) (w' : World) : Prop := ∃ j : Nat, e = .returned (.int .i64 (j : Int)) ∧ j < n ∧ w' = w
theorem place_ok (w : World) (k : Int) (n : Nat) (h0 : 0 < n) (hn : n ≤ 100000000) : Calls Try.prog 14 #[.int .i64 k, .int .i64 n] w (PlaceP n w) := by
  have hne : ¬ (n : Int) = 0 := by omega
  have p0 : (0 : Int) < n := by omega
  have hlt := Int.tmod_lt_of_pos k p0
  have hgt := Int.lt_tmod_of_pos k p0
  obtain ⟨m, hm⟩ : ∃ m, k.tmod n = m := ⟨_, rfl⟩
  rw [hm] at hlt hgt
  by_cases hneg : m < 0
  · have d := int_dec hneg
    have HF := Lib.hid (show PlaceP n w (.returned (.int .i64 (m + n))) w from ⟨(m + n).toNat, by congr 2; omega, by omega, rfl⟩)
    go_enter Try.func14, Try.ntmps14
    go_wp2
    go_ret
    exact HF.out
  · have d := int_ndec hneg
    have HF := Lib.hid (show PlaceP n w (.returned (.int .i64 m)) w from ⟨m.toNat, by congr 2; omega, by omega, rfl⟩)
    go_enter Try.func14, Try.ntmps14
    go_wp2
    go_ret
    exact HF.out

attribute [local go_sem ↓] ssLoad_fold ssStore_fold ssAlloc_fold ssBox_fold ssZero_fold
set_option maxRecDepth 100000 in
theorem sessions_ok {S S' : Nat → Prop} {w : World} {A B : Option Addr} {c d n : Nat} {xs ys : List SV} (hx : RowAt S w A (svCells xs)) (hy : RowAt S' w B (svCells ys)) (hxp : ∀ x ∈ xs, RowAt S w x.A (ptCells x.s.peers)) (hyp : ∀ x ∈ ys, RowAt S' w x.A (ptCells x.s.peers))
    (few : ∀ x ∈ xs, x.s.peers.length ≤ 65536) (he : xs.map (·.s) = ys.map (·.s)) (hn : n = xs.length) (hl : xs.length ≤ 1000000) :
    Calls Try.prog 23 #[.slice A n c, .slice B n d] w fun e w' => e = .returned (.bool true) ∧ Mod No w w' := by
  have H := Lib.hid (And.intro hx (And.intro hy (And.intro hxp (And.intro hyp (And.intro few (And.intro he hn))))))
  rw [← hn] at hl
  have hl0 : ((n : Int) != n) = false := by simp
  clear hx hy hxp hyp few he hn
  go_enter Try.func23, Try.ntmps23
  go_wp2
  go_loopw [5] (fun i wr => ∃ k : Nat, i = .int .i64 k ∧ k ≤ n ∧ Mod No w wr) (fun i _ => n - (intOf i).toNat)
  case atStart => exact ⟨0, rfl, by omega, Mod.refl _ _⟩
  case round =>
    obtain ⟨k, rfl, hk, hm⟩ := hrel
    have HM := Lib.hid hm
    clear hm
    by_cases hkn : k < n
    · as_aux_lemma =>
      have hys : ys.length = n := by have h1 := congrArg List.length H.out.2.2.2.2.2.1; have := H.out.2.2.2.2.2.2; simp at h1; omega
      obtain ⟨x, hxk⟩ : ∃ x, xs[k]? = some x := ⟨_, List.getElem?_eq_getElem (by have := H.out.2.2.2.2.2.2; omega)⟩
      obtain ⟨y, hyk⟩ : ∃ y, ys[k]? = some y := ⟨_, List.getElem?_eq_getElem (by omega)⟩
      have hxy : x.s = y.s := by
        have h1 : (xs.map (·.s))[k]? = (ys.map (·.s))[k]? := by rw [H.out.2.2.2.2.2.1]
        simpa [List.getElem?_map, hxk, hyk] using h1
      obtain ⟨b, o, rfl, _, _, hcx⟩ := (H.out.1.keeps (HM.out.keeps (fun _ _ _ f => f))).elem SV.cells 9 (fun _ => rfl) (by omega) hxk
      obtain ⟨b', o', rfl, _, _, hcy⟩ := (H.out.2.1.keeps (HM.out.keeps (fun _ _ _ f => f))).elem SV.cells 9 (fun _ => rfl) (by omega) hyk
      have hlx : ∀ U, Mod No wr U → (ssLoad (.pointer (some ⟨b, o + k * 9, none⟩))).run Try.prog U = .ok (.agg x.cells.toArray) U := fun U hU => ssLoad_mid U b (o + k * 9) x (fun j v hj => hU.cell (hcx j v hj) id)
      have hly : ∀ U, Mod No wr U → (ssLoad (.pointer (some ⟨b', o' + k * 9, none⟩))).run Try.prog U = .ok (.agg y.cells.toArray) U := fun U hU => ssLoad_mid U b' (o' + k * 9) y (fun j v hj => hU.cell (hcy j v hj) id)
      have hsame : ∀ U, Mod No wr U → Calls Try.prog 22 #[.agg x.cells.toArray, .agg y.cells.toArray] U fun e w' => e = .returned (.bool true) ∧ Mod No U w' := fun U hU => by
        have h1 := helpSess_ok x.s y.s x.A y.A x.c y.c U ((H.out.2.2.1 x (List.mem_of_getElem? hxk)).keeps ((HM.out.trans hU).keeps (fun _ _ _ f => f))) ((H.out.2.2.2.1 y (List.mem_of_getElem? hyk)).keeps ((HM.out.trans hU).keeps (fun _ _ _ f => f))) (H.out.2.2.2.2.1 x (List.mem_of_getElem? hxk))
        rw [show decide (x.s = y.s) = true by simpa using hxy] at h1
        exact h1
      obtain ⟨CX, hCX⟩ : ∃ CX, CX = x.cells.toArray := ⟨_, rfl⟩
      obtain ⟨CY, hCY⟩ : ∃ CY, CY = y.cells.toArray := ⟨_, rfl⟩
      rw [← hCX] at hlx hsame
      rw [← hCY] at hly hsame
      have hold : ∀ w', Mod No wr w' → (ssLoad (.pointer (some ⟨b, o + k * 9, none⟩))).run Try.prog w' = .ok (.agg CX) w' ∧ (ssLoad (.pointer (some ⟨b', o' + k * 9, none⟩))).run Try.prog w' = .ok (.agg CY) w' := fun w' hw' => ⟨hlx w' hw', hly w' hw'⟩
      have HO := Lib.hid hold
      have HL := Lib.hid hsame
      have p1 : (0:Int) ≤ k := by omega
      have p2 : (k:Int) < n := by omega
      clear hcx hcy hold hlx hly hsame hCX hCY hxy hxk hyk hys
      go_wp2_with fail
      go_region_held3 (fun w' => (ssLoad (.pointer (some ⟨b, o + k * 9, none⟩))).run Try.prog w' = .ok (.agg CX) w' ∧ (ssLoad (.pointer (some ⟨b', o' + k * 9, none⟩))).run Try.prog w' = .ok (.agg CY) w')
        ((refine HO.out _ ?_; repeat (first | with_reducible exact Mod.refl _ _ | refine Mod.drew ?_ | with_reducible refine Mod.trans ?_ hm3))) (first | (go_at_call 22; refine (HL.out _ (by repeat (first | with_reducible exact Mod.refl _ _ | refine Mod.drew ?_))).mono ?_; rintro e w3 ⟨rfl, hm3⟩))
      all_goals
        go_wp2_with fail
        exact ⟨⟨k + 1, by go_num, by omega, HM.out.trans (by repeat (first | with_reducible exact Mod.refl _ _ | refine Mod.drew ?_ | with_reducible refine Mod.trans ?_ hm3))⟩, by simp [intOf]; omega⟩
    · as_aux_lemma =>
      have hkn' : k = n := by omega
      subst hkn'
      go_wp2
      go_ret
      exact ⟨rfl, HM.out⟩

end Go.Proofs.Ytimbhkbdmcbodaa
