/-
  slices.IndexFunc and ContainsFunc at numbers: against whatever closure.
-/
import Derived.Test.YtfpfpeachmcfeaaDoorTwcN
namespace Go.Proofs.YtfpfpeachmcfeaaDoor
open Go.RowKit
set_option linter.unusedVariables false
set_option linter.unusedSimpArgs false
attribute [local go_sem ↓] Go.wp_at_zero Go.wp_at_succ

/-- What a closure over numbers does: it tells q of each, and writes nothing that is there. -/
structure TellsN (fn : Nat) (caps : Array Value) (q : Nat → Bool) (w : World) : Prop where
  enters : ∀ (a : Array Value) (W : World), (callFunc fn a).run Tryd.prog W = .ok (.enter fn a) W
  says : ∀ (W : World) (x : Nat), Mod No w W → Calls Tryd.prog fn (#[.int .u32 (x : Int)] ++ caps) W fun e W' => e = .returned (.bool (q x)) ∧ Mod No W W'
theorem TellsN.later {fn : Nat} {caps : Array Value} {q : Nat → Bool} {w w' : World} (h : TellsN fn caps q w) (hm : Mod No w w') : TellsN fn caps q w' := ⟨h.enters, fun W x hW => h.says W x (hm.trans hW)⟩
def anyAt (q : Nat → Bool) (l : List Nat) : Int := match l.findIdx? q with | some i => i | none => -1
theorem anyAt_hit {q : Nat → Bool} {l : List Nat} {x k : Nat} (h : ∀ y ∈ l.take k, q y = false) (hk : l[k]? = some x) (hx : q x = true) : anyAt q l = k := by
  unfold anyAt
  have : l.findIdx? q = some k := by
    rw [List.findIdx?_eq_some_iff_getElem]
    obtain ⟨hlt, e⟩ := List.getElem?_eq_some_iff.1 hk
    refine ⟨hlt, by rw [e]; exact hx, fun j hj => ?_⟩
    have := h l[j] (by rw [List.mem_take_iff_getElem]; exact ⟨j, by omega, rfl⟩)
    simp [this]
  rw [this]
theorem anyAt_miss {q : Nat → Bool} {l : List Nat} {k : Nat} (h : ∀ y ∈ l.take k, q y = false) (hk : l.length ≤ k) : anyAt q l = -1 := by
  unfold anyAt
  have : l.findIdx? q = none := by
    rw [List.findIdx?_eq_none_iff]
    intro y hy
    exact h y (by rwa [List.take_of_length_le hk])
  rw [this]
theorem anyAt_iff (q : Nat → Bool) (l : List Nat) : decide ((0 : Int) ≤ anyAt q l) = l.any q := by
  unfold anyAt
  cases h : l.findIdx? q with
  | some i =>
    obtain ⟨h1, h2, _⟩ := List.findIdx?_eq_some_iff_getElem.1 h
    rw [List.any_eq_true.2 ⟨l[i], List.getElem_mem h1, h2⟩]
    simp
  | none =>
    rw [List.any_eq_false.2 (fun x hx => by have := List.findIdx?_eq_none_iff.1 h x hx; simp [this])]
    rfl
theorem take_no_next {q : Nat → Bool} {l : List Nat} {y k : Nat} (h : ∀ z ∈ l.take k, q z = false) (hk : l[k]? = some y) (he : q y = false) : ∀ z ∈ l.take (k + 1), q z = false := by
  obtain ⟨hlt, e⟩ := List.getElem?_eq_some_iff.1 hk
  rw [List.take_succ_eq_append_getElem hlt, e]
  intro z hz
  rcases List.mem_append.1 hz with h1 | h1
  · exact h z h1
  · rw [List.mem_singleton.1 h1]; exact he
set_option maxRecDepth 100000 in
theorem indexFuncN_ok {Q : Nat → Prop} {w : World} {A : Option Addr} {c n fn : Nat} {caps : Array Value} {q : Nat → Bool} (l : List Nat) (hx : RowAt Q w A (numCells l)) (hn : n = l.length) (hl : l.length ≤ 1000000) (hq : TellsN fn caps q w) :
    Calls Tryd.prog 54 #[.slice A n c, .func (.func fn) #[] caps] w fun e w' => e = .returned (.int .i64 (anyAt q l)) ∧ Mod No w w' := by
  obtain ⟨R, hR⟩ : ∃ R, R = anyAt q l := ⟨_, rfl⟩
  rw [← hR]
  have H := Lib.hid (And.intro hx (And.intro hn (And.intro hq.says hR)))
  have hen := hq.enters
  rw [← hn] at hl
  clear hx hn hq hR
  go_enter Tryd.func54, Tryd.ntmps54
  go_wp2
  go_loopw [8] (fun i wr => ∃ k : Nat, i = .int .i64 k ∧ k ≤ n ∧ (∀ y ∈ l.take k, q y = false) ∧ Mod No w wr) (fun i _ => n - (intOf i).toNat)
  case atStart => exact ⟨0, rfl, by omega, by simp, Mod.refl _ _⟩
  case round =>
    obtain ⟨k, rfl, hk, hno, hm⟩ := hrel
    have HN := Lib.hid (And.intro hno hm)
    clear hno
    by_cases hkn : k < n
    · obtain ⟨y, hy⟩ : ∃ y, l[k]? = some y := ⟨_, List.getElem?_eq_getElem (by have := H.out.2.1; omega)⟩
      obtain ⟨b, o, rfl, _, _, hc⟩ := num_at ((H.out.1.mono (S' := fun b => Q b ∧ b < w.heap.size) (fun b hb hs => ⟨hs, hb⟩)).keeps (hm.keeps (fun _ _ _ f => f))) hy
      have HY := Lib.hid hy
      have p1 : (0:Int) ≤ k := by omega
      have p2 : (k:Int) < n := by omega
      have hS := H.out.2.2.1 _ y HN.out.2
      have HS := Lib.hid hS
      clear hy hm hS
      cases hqy : q y
      · as_aux_lemma =>
        have HE := Lib.hid hqy
        clear hqy
        go_wp2_with fail
        refine HS.out.mono ?_
        rintro e w1 ⟨rfl, hm1⟩
        have HM := Lib.hid hm1
        clear hm1
        rw [HE.out]
        go_wp2
        exact ⟨⟨k + 1, by go_num, by omega, take_no_next HN.out.1 HY.out HE.out, HN.out.2.trans HM.out⟩, by simp [intOf]; omega⟩
      · as_aux_lemma =>
        have hfin : (k : Int) = R := by rw [H.out.2.2.2, anyAt_hit HN.out.1 HY.out hqy]
        have HE := Lib.hid (And.intro hqy hfin)
        clear hqy hfin
        go_wp2_with fail
        refine HS.out.mono ?_
        rintro e w1 ⟨rfl, hm1⟩
        have HM := Lib.hid hm1
        clear hm1
        rw [HE.out.1]
        go_wp2
        go_ret
        exact ⟨by rw [← HE.out.2]; rfl, HN.out.2.trans HM.out⟩
    · as_aux_lemma =>
      have hkn' : k = n := by omega
      subst hkn'
      have hfin : (-1 : Int) = R := by rw [H.out.2.2.2, anyAt_miss HN.out.1 (by have := H.out.2.1; omega)]
      have HF := Lib.hid hfin
      clear hfin hm
      go_wp2
      go_ret
      exact ⟨by rw [← HF.out]; rfl, HN.out.2⟩
theorem containsFuncN_ok {Q : Nat → Prop} {w : World} {A : Option Addr} {c n fn : Nat} {caps : Array Value} {q : Nat → Bool} (l : List Nat) (hx : RowAt Q w A (numCells l)) (hn : n = l.length) (hl : l.length ≤ 1000000) (hq : TellsN fn caps q w) :
    Calls Tryd.prog 33 #[.slice A n c, .func (.func fn) #[] caps] w fun e w' => e = .returned (.bool (l.any q)) ∧ Mod No w w' := by
  have HI := Lib.hid (indexFuncN_ok (c := c) l hx hn hl hq)
  have e1 := anyAt_iff q l
  obtain ⟨R, hR⟩ : ∃ R, R = anyAt q l := ⟨_, rfl⟩
  obtain ⟨B, hB⟩ : ∃ B, B = l.any q := ⟨_, rfl⟩
  rw [← hR] at e1 HI
  rw [← hB] at e1 ⊢
  clear hx hn hl hR hB hq
  go_enter Tryd.func33, Tryd.ntmps33
  go_wp2_with (go_at_call 54; refine HI.out.mono ?_; rintro e w1 ⟨rfl, hm⟩)
  go_ret
  exact ⟨by first | rfl | simp [e1], hm⟩

end Go.Proofs.YtfpfpeachmcfeaaDoor
