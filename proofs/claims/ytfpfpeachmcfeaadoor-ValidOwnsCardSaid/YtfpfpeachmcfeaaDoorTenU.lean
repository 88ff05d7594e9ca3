/-
  valid.Tenant.
-/
import Derived.Test.YtfpfpeachmcfeaaDoorTenT
namespace Go.Proofs.YtfpfpeachmcfeaaDoor
open Go.RowKit
set_option linter.unusedVariables false
set_option linter.unusedSimpArgs false
attribute [local go_sem ↓] Go.wp_at_zero Go.wp_at_succ
attribute [local go_sem ↓] store_fold alloc_fold load_fold slice_op_fold ten_zero_fold
attribute [local go_sem] run_store_func

/-- What addr.Name says of a text, wherever it is asked. -/
def NameSays (s : List UInt8) (b : Bool) (w : World) : Prop := ∀ W, Mod No w W → Calls Tryd.prog 43 #[.string (str s)] W (Says b W)
theorem nameC_ok {g : Nat} {x : TV} {w : World} {B : Bool} (h : Held g x w) (hN : NameSays x.t.name B w) : Calls Tryd.prog 42 #[.pointer (some ⟨g, 0, none⟩)] w (Says (!B) w) := by
  have c0 : w.cell? ⟨g, 0, none⟩ = some (.string (str x.t.name)) := (blk_cell h.blk 0).trans rfl
  have HN := Lib.hid (hN w (Mod.refl _ _))
  obtain ⟨s, hs⟩ : ∃ s, s = str x.t.name := ⟨_, rfl⟩
  rw [← hs] at c0 HN
  clear h hN hs
  unfold Says
  go_enter Tryd.func42, Tryd.ntmps42
  go_wp2_with (go_at_call 43; refine HN.out.mono ?_; rintro e w1 ⟨rfl, hm⟩)
  go_ret
  exact ⟨rfl, hm⟩
theorem enterRules : ∀ (a : Array Value) (W : World), (callFunc 36 a).run Tryd.prog W = .ok (.enter 36 a) W := enters_of Tryd.func36 (by kernel_rfl) rfl
set_option maxRecDepth 100000 in
theorem filterC_ok {g gr : Nat} {x : TV} {w : World} (h : Held g x w) (hr : w.cell? ⟨gr, 0, none⟩ = some (.func (.func 36) #[] #[.pointer (some ⟨g, 0, none⟩)])) (hp : x.t.pool.length ≤ 1000000) (hs : x.t.statics.length ≤ 12) (ht : x.t.twices.length ≤ 12) :
    Calls Tryd.prog 47 #[.pointer (some ⟨g, 0, none⟩), .pointer (some ⟨gr, 0, none⟩)] w (Says (badFilter x.t || badRules x.t) w) := by
  have c0 : w.cell? ⟨g, 26, none⟩ = some (.int .i64 x.t.filter) := (blk_cell h.blk 26).trans rfl
  have hen := enterRules
  have HR := Lib.hid (rulesC_ok h hp hs ht)
  obtain ⟨v, hv⟩ : ∃ v, v = x.t.filter := ⟨_, rfl⟩
  have hB : badFilter x.t = (decide (v < 0) || decide (2 < v)) := by rw [hv]; rfl
  obtain ⟨R, hR⟩ : ∃ R, R = badRules x.t := ⟨_, rfl⟩
  rw [← hv] at c0
  rw [← hR] at HR
  rw [hB, ← hR]
  clear hB hv hR h hp hs ht
  unfold Says
  by_cases h1 : v < 0 ∨ 2 < v
  · have hX : (decide (v < 0) || decide (2 < v) || R) = true := by
      rcases h1 with h1 | h1 <;> simp [h1]
    rw [hX]
    rcases h1 with h1 | h1
    · as_aux_lemma =>
      go_enter Tryd.func47, Tryd.ntmps47
      go_wp2
      all_goals
        go_ret
        exact ⟨by first | rfl | simp [h1] | (simp; omega), Mod.refl _ _⟩
    · as_aux_lemma =>
      have h2 : ¬ v < 0 := by omega
      go_enter Tryd.func47, Tryd.ntmps47
      go_wp2
      all_goals
        go_ret
        exact ⟨by first | rfl | simp [h1] | (simp; omega), Mod.refl _ _⟩
  · as_aux_lemma =>
    have h2 : ¬ v < 0 := by omega
    have h3 : ¬ 2 < v := by omega
    have hX : (decide (v < 0) || decide (2 < v) || R) = R := by simp [h2, h3]
    rw [hX]
    clear hX
    go_enter Tryd.func47, Tryd.ntmps47
    go_wp2_with fail
    refine HR.out.mono ?_
    rintro e w1 ⟨rfl, hm⟩
    have HM := Lib.hid hm
    clear hm
    go_wp2
    all_goals
      go_ret
      exact ⟨by first | rfl | simp [h2, h3] | (simp; omega), HM.out⟩

theorem enterT2 : ∀ (a : Array Value) (W : World), (callFunc 42 a).run Tryd.prog W = .ok (.enter 42 a) W := enters_of Tryd.func42 (by kernel_rfl) rfl
theorem enterT3 : ∀ (a : Array Value) (W : World), (callFunc 44 a).run Tryd.prog W = .ok (.enter 44 a) W := enters_of Tryd.func44 (by kernel_rfl) rfl
theorem enterT4 : ∀ (a : Array Value) (W : World), (callFunc 45 a).run Tryd.prog W = .ok (.enter 45 a) W := enters_of Tryd.func45 (by kernel_rfl) rfl
theorem enterT5 : ∀ (a : Array Value) (W : World), (callFunc 46 a).run Tryd.prog W = .ok (.enter 46 a) W := enters_of Tryd.func46 (by kernel_rfl) rfl
theorem enterT6 : ∀ (a : Array Value) (W : World), (callFunc 47 a).run Tryd.prog W = .ok (.enter 47 a) W := enters_of Tryd.func47 (by kernel_rfl) rfl
theorem enterT7 : ∀ (a : Array Value) (W : World), (callFunc 48 a).run Tryd.prog W = .ok (.enter 48 a) W := enters_of Tryd.func48 (by kernel_rfl) rfl
theorem enterT8 : ∀ (a : Array Value) (W : World), (callFunc 49 a).run Tryd.prog W = .ok (.enter 49 a) W := enters_of Tryd.func49 (by kernel_rfl) rfl
/-- The first thing that is wrong with a tenant (B: its name is one). -/
def vTen (B : Bool) (t : Ten) : Int :=
  if B = false then 90 else if badVni t then 91 else if badPool t then 92 else if badPorts t then 93 else if badFilter t || badRules t then 94 else if badQuota t then 95 else if badVtep t then 96 else 0
def tenRules (g gr : Nat) (B : Bool) (t : Ten) : List RuleV :=
  [⟨90, 42, #[.pointer (some ⟨g, 0, none⟩)], !B⟩, ⟨91, 44, #[.pointer (some ⟨g, 0, none⟩)], badVni t⟩, ⟨92, 45, #[.pointer (some ⟨g, 0, none⟩)], badPool t⟩,
   ⟨93, 46, #[.pointer (some ⟨g, 0, none⟩)], badPorts t⟩, ⟨94, 47, #[.pointer (some ⟨g, 0, none⟩), .pointer (some ⟨gr, 0, none⟩)], badFilter t || badRules t⟩,
   ⟨95, 48, #[.pointer (some ⟨g, 0, none⟩)], badQuota t⟩, ⟨96, 49, #[.pointer (some ⟨g, 0, none⟩)], badVtep t⟩]
theorem tenRules_first (g gr : Nat) (B : Bool) (t : Ten) : firstBad (tenRules g gr B t) = vTen B t := by
  unfold firstBad tenRules vTen
  cases B <;> cases badVni t <;> cases badPool t <;> cases badPorts t <;> cases (badFilter t || badRules t) <;> cases badQuota t <;> cases badVtep t <;> rfl
theorem tenRules_enter (g gr : Nat) (B : Bool) (t : Ten) : ∀ r ∈ tenRules g gr B t, ∀ (a : Array Value) (W : World), (callFunc r.fn a).run Tryd.prog W = .ok (.enter r.fn a) W := by
  intro r hr
  simp only [tenRules, List.mem_cons, List.not_mem_nil, or_false] at hr
  rcases hr with rfl | rfl | rfl | rfl | rfl | rfl | rfl
  · exact enterT2
  · exact enterT3
  · exact enterT4
  · exact enterT5
  · exact enterT6
  · exact enterT7
  · exact enterT8
/-- Short enough for what is proved of the sort. -/
def Short (t : Ten) : Prop := t.pool.length ≤ 1000 ∧ t.statics.length ≤ 12 ∧ t.twices.length ≤ 12
set_option maxRecDepth 100000 in
theorem tenant_ok {S : Nat → Prop} {w : World} {B : Bool} (x : TV) (hx : x.Rows S w) (hsh : Short x.t) (hN : NameSays x.t.name B w) :
    Calls Tryd.prog 21 #[.agg x.cells.toArray] w fun e w' => e = .returned (.int .i64 (vTen B x.t)) ∧ Mod No w w' := by
  obtain ⟨CX, hCX⟩ : ∃ CX, CX = x.cells.toArray := ⟨_, rfl⟩
  have hbox := box_ten CX (by rw [hCX]; rfl) w
  obtain ⟨W, hW⟩ : ∃ W, W = w.alloc (.cells CX 30) := ⟨_, rfl⟩
  have m1 : Mod No w W := by rw [hW]; exact (Mod.refl _ _).alloc _
  have hbl : W.heap[w.heap.size]? = some (.cells x.cells.toArray 30 (0, 0)) := by rw [hW, hCX]; exact at10 w _
  have hH : Held w.heap.size x W := ⟨hbl, (hx.keeps (m1.keeps (fun _ _ _ f => f))).lt (fun b hb _ => hb)⟩
  rw [← hCX]
  obtain ⟨g, hg⟩ : ∃ g, g = w.heap.size := ⟨_, rfl⟩
  rw [← hg] at hH hbox
  have H := Lib.hid (And.intro hH (And.intro m1 (And.intro hsh hN)))
  clear hbl hCX hx m1 hH hsh hN
  go_enter Tryd.func21, Tryd.ntmps21
  go_upto_region 1 with fail
  rw [← hW]
  rw [← hg]
  clear hW hbox hg
  go_upto_region 2 with fail
  refine grab_w fun V hV => ?_
  have mV : Mod No W V := by rw [hV]; exact (Mod.refl _ _).alloc _
  have cr : V.cell? ⟨W.heap.size, 0, none⟩ = some (.func (.func 36) #[] #[.pointer (some ⟨g, 0, none⟩)]) := by rw [hV]; exact (blk_cell (at10 _ _) 0).trans rfl
  obtain ⟨gr, hgr⟩ : ∃ gr, gr = W.heap.size := ⟨_, rfl⟩
  rw [← hgr] at cr ⊢
  have hH := H.out.1.keep mV
  have hsh := H.out.2.2.1
  have hfirst : ∀ (U : World) (gg : Nat), Mod No V U → U.heap[gg]? = some (.cells (ruleCells (tenRules g gr B x.t)).toArray 61 (0, 0)) → Calls Tryd.prog 27 #[.slice (some ⟨gg, 0, none⟩) 7 7] U fun e w' => e = .returned (.int .i64 (vTen B x.t)) ∧ Mod No U w' := fun U gg hU hgg => by
    have hHU := hH.keep hU
    have crU := hU.cell cr (fun f => f)
    have hf := first_ok (Q := fun b => b < U.heap.size) (c := 7) (A := some ⟨gg, 0, none⟩) (n := 7) (w := U) (tenRules g gr B x.t) (.inr ⟨gg, 0, rfl, lt_of_block hgg, fun j v hj => by rw [Nat.zero_add, blk_cell hgg j, ← hj, List.getElem?_toArray]⟩) rfl (by show 7 ≤ 1000000; omega) (tenRules_enter g gr B x.t) (fun k r W' hk _ hW' => by
      have h1 := hHU.keep hW'
      have h2 := hW'.cell crU (fun f => f)
      match k with
      | 0 => cases hk; exact nameC_ok h1 (fun W2 h3 => H.out.2.2.2 W2 (((H.out.2.1.trans mV).trans hU).trans (hW'.trans h3)))
      | 1 => cases hk; exact vniC_ok h1
      | 2 => cases hk; exact poolC_ok h1 (by have := hsh.1; omega)
      | 3 => cases hk; exact portsC_ok h1
      | 4 => cases hk; exact filterC_ok h1 h2 (by have := hsh.1; omega) hsh.2.1 hsh.2.2
      | 5 => cases hk; exact quotaC_ok h1
      | 6 => cases hk; exact vtepC_ok h1
      | (k + 7) => simp [tenRules] at hk)
    rw [tenRules_first] at hf
    exact hf
  have HF := Lib.hid hfirst
  have HV := Lib.hid (H.out.2.1.trans mV)
  clear hfirst hH hsh hV mV cr hgr
  go_wp2_with (go_at_call 27; refine (HF.out _ _ (by repeat (first | with_reducible exact Mod.refl _ _ | refine Mod.alloc ?_ _ | refine Mod.drew ?_)) (by first | exact at10 _ _ | exact at10d _ _)).mono ?_; rintro e w3 ⟨rfl, hm⟩)
  go_ret
  exact ⟨rfl, (HV.out.trans (by repeat (first | with_reducible exact Mod.refl _ _ | refine Mod.alloc ?_ _ | refine Mod.drew ?_))).trans hm⟩

end Go.Proofs.YtfpfpeachmcfeaaDoor
