/-
  first: the first rule that applies, against whatever rules.
-/
import Derived.Test.YtfpfpeachmcfeaaDoorIdxF
namespace Go.Proofs.YtfpfpeachmcfeaaDoor
open Go.RowKit
set_option linter.unusedVariables false
set_option linter.unusedSimpArgs false
attribute [local go_sem ↓] Go.wp_at_zero Go.wp_at_succ
attribute [local go_sem] run_store_func

/-- A rule: its error, its closure, and whether it applies. -/
structure RuleV where
  e : Int
  fn : Nat
  caps : Array Value
  bad : Bool
def RuleV.cells (r : RuleV) : List Value := [.int .i64 r.e, .func (.func r.fn) #[] r.caps]
def ruleCells (l : List RuleV) : List Value := l.flatMap RuleV.cells
theorem RuleV.cells_length (r : RuleV) : r.cells.length = 2 := rfl
def firstBad (l : List RuleV) : Int := match l.find? RuleV.bad with | some r => r.e | none => 0
theorem rule_at {Q : Nat → Prop} {w : World} {A : Option Addr} {l : List RuleV} (h : RowAt Q w A (ruleCells l)) {k : Nat} {p : RuleV} (hk : l[k]? = some p) :
    ∃ b o, A = some ⟨b, o, none⟩ ∧ Q b ∧ b < w.heap.size ∧ w.cell? ⟨b, o + k * 2, none⟩ = some (.int .i64 p.e) ∧ w.cell? ⟨b, o + k * 2 + 1, none⟩ = some (.func (.func p.fn) #[] p.caps) := by
  obtain ⟨b, o, e, hq, hlt, hc⟩ := h.elem RuleV.cells 2 RuleV.cells_length (by omega) hk
  exact ⟨b, o, e, hq, hlt, hc 0 _ rfl, hc 1 _ rfl⟩
theorem firstBad_hit {l : List RuleV} {k : Nat} {r : RuleV} (h : ∀ y ∈ l.take k, y.bad = false) (hk : l[k]? = some r) (hr : r.bad = true) : firstBad l = r.e := by
  unfold firstBad
  obtain ⟨hlt, e⟩ := List.getElem?_eq_some_iff.1 hk
  have : l = l.take k ++ r :: l.drop (k + 1) := by rw [← e, List.getElem_cons_drop, List.take_append_drop]
  rw [this, List.find?_append, List.find?_eq_none.2 (fun x hx => by simp [h x hx])]
  simp [hr]
theorem firstBad_miss {l : List RuleV} {k : Nat} (h : ∀ y ∈ l.take k, y.bad = false) (hk : l.length ≤ k) : firstBad l = 0 := by
  unfold firstBad
  rw [List.find?_eq_none.2 (fun x hx => by simp [h x (by rwa [List.take_of_length_le hk])])]
theorem rule_next {l : List RuleV} {k : Nat} {r : RuleV} (h : ∀ y ∈ l.take k, y.bad = false) (hk : l[k]? = some r) (hr : r.bad = false) : ∀ y ∈ l.take (k + 1), y.bad = false := by
  obtain ⟨hlt, e⟩ := List.getElem?_eq_some_iff.1 hk
  rw [List.take_succ_eq_append_getElem hlt, e]
  intro z hz
  rcases List.mem_append.1 hz with h1 | h1
  · exact h z h1
  · rw [List.mem_singleton.1 h1]; exact hr
set_option maxRecDepth 100000 in
theorem first_ok {Q : Nat → Prop} {w : World} {A : Option Addr} {c n : Nat} (l : List RuleV) (hx : RowAt Q w A (ruleCells l)) (hn : n = l.length) (hl : l.length ≤ 1000000)
    (hen : ∀ r ∈ l, ∀ (a : Array Value) (W : World), (callFunc r.fn a).run Tryd.prog W = .ok (.enter r.fn a) W)
    (hs : ∀ (k : Nat) (r : RuleV) (W : World), l[k]? = some r → (∀ y ∈ l.take k, y.bad = false) → Mod No w W → Calls Tryd.prog r.fn r.caps W fun e W' => e = .returned (.bool r.bad) ∧ Mod No W W') :
    Calls Tryd.prog 27 #[.slice A n c] w fun e w' => e = .returned (.int .i64 (firstBad l)) ∧ Mod No w w' := by
  obtain ⟨R, hR⟩ : ∃ R, R = firstBad l := ⟨_, rfl⟩
  rw [← hR]
  have H := Lib.hid (And.intro hx (And.intro hn (And.intro hen (And.intro hs hR))))
  rw [← hn] at hl
  clear hx hn hen hs hR
  go_enter Tryd.func27, Tryd.ntmps27
  go_wp2
  go_loopw [7] (fun i wr => ∃ k : Nat, i = .int .i64 k ∧ k ≤ n ∧ (∀ y ∈ l.take k, y.bad = false) ∧ Mod No w wr) (fun i _ => n - (intOf i).toNat)
  case atStart => exact ⟨0, rfl, by omega, by simp, Mod.refl _ _⟩
  case round =>
    obtain ⟨k, rfl, hk, hno, hm⟩ := hrel
    have HN := Lib.hid (And.intro hno hm)
    clear hno
    by_cases hkn : k < n
    · obtain ⟨r, hr⟩ : ∃ r, l[k]? = some r := ⟨_, List.getElem?_eq_getElem (by have := H.out.2.1; omega)⟩
      obtain ⟨b, o, rfl, _, hblt, hc0, hc1⟩ := rule_at ((H.out.1.mono (S' := fun b => Q b ∧ b < w.heap.size) (fun b hb hs => ⟨hs, hb⟩)).keeps (hm.keeps (fun _ _ _ f => f))) hr
      have hen := H.out.2.2.1 r (List.mem_of_getElem? hr)
      have HY := Lib.hid hr
      have p1 : (0:Int) ≤ k := by omega
      have p2 : (k:Int) < n := by omega
      have HS := Lib.hid (fun W hW => H.out.2.2.2.1 k r W hr HN.out.1 hW)
      clear hr hm
      go_wp2_with fail
      refine (HS.out _ (HN.out.2.alloc _)).mono ?_
      rintro e w1 ⟨rfl, hm1⟩
      have cc : w1.cell? ⟨wr.heap.size, 0, none⟩ = some (.int .i64 r.e) := hm1.cell ((blk_cell (at10 wr _) 0).trans rfl) (fun f => f)
      have HM := Lib.hid ((HN.out.2.alloc _).trans hm1)
      clear hm1
      cases hb : r.bad
      · as_aux_lemma =>
        have HE := Lib.hid hb
        clear hb
        go_wp2
        exact ⟨⟨k + 1, by go_num, by omega, rule_next HN.out.1 HY.out HE.out, HM.out⟩, by simp [intOf]; omega⟩
      · as_aux_lemma =>
        have hfin : r.e = R := by rw [H.out.2.2.2.2, firstBad_hit HN.out.1 HY.out hb]
        have HE := Lib.hid hfin
        clear hb hfin
        go_wp2
        go_ret
        exact ⟨by rw [← HE.out]; rfl, HM.out⟩
    · as_aux_lemma =>
      have hkn' : k = n := by omega
      subst hkn'
      have hfin : (0 : Int) = R := by rw [H.out.2.2.2.2, firstBad_miss HN.out.1 (by have := H.out.2.1; omega)]
      have HF := Lib.hid hfin
      clear hfin hm
      go_wp2
      go_ret
      exact ⟨by rw [← HF.out]; rfl, HN.out.2⟩

end Go.Proofs.YtfpfpeachmcfeaaDoor
