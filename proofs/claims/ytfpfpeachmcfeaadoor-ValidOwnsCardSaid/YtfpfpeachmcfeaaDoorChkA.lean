/-
  valid.Check's closures.
-/
import Derived.Test.YtfpfpeachmcfeaaDoorTenU
import Derived.Laws.Cover1
namespace Go.Proofs.YtfpfpeachmcfeaaDoor
open Go.RowKit
set_option linter.unusedVariables false
set_option linter.unusedSimpArgs false
attribute [local go_sem ↓] Go.wp_at_zero Go.wp_at_succ
attribute [local go_sem ↓] store_fold alloc_fold load_fold slice_op_fold ten_zero_fold
attribute [local go_sem] run_store_func

/-! ### Check$3: does the tenant own one that is taken? -/
theorem enterC31 : ∀ (a : Array Value) (W : World), (callFunc 34 a).run Tryd.prog W = .ok (.enter 34 a) W := enters_of Tryd.func34 (by kernel_rfl) rfl
theorem ownsC_ok {g : Nat} {x : TV} {w : World} (h : Held g x w) (h1 : x.t.pool.length ≤ 100000) (h2 : x.t.statics.length ≤ 100000) : TellsN 34 #[.pointer (some ⟨g, 0, none⟩)] (fun y => decide (y ∈ ownedN x.t)) w := by
  refine ⟨enterC31, fun W y hW => ?_⟩
  have h := h.keep hW
  have hld := tenLoad_run h.blk rfl
  have ho := owns_ok x h.rows h1 h2 y
  obtain ⟨C, hC⟩ : ∃ C, C = decide (y ∈ ownedN x.t) := ⟨_, rfl⟩
  obtain ⟨CX, hCX⟩ : ∃ CX, CX = x.cells.toArray := ⟨_, rfl⟩
  rw [← hC] at ho ⊢
  rw [← hCX] at hld ho
  have HO := Lib.hid ho
  clear hC h hW h1 h2 ho hCX
  show Calls Tryd.prog 34 #[.int .u32 (y : Int), .pointer (some ⟨g, 0, none⟩)] W _
  go_enter Tryd.func34, Tryd.ntmps34
  go_wp2_with (go_at_call 13; refine HO.out.mono ?_; rintro e w1 ⟨rfl, hm⟩)
  go_ret
  exact ⟨rfl, hm⟩
theorem takenC_ok {g gk : Nat} {x : TV} {w : World} (h : Held g x w) (h1 : x.t.pool.length ≤ 100000) (h2 : x.t.statics.length ≤ 100000) {A : Option Addr} {c : Nat} (l : List Nat) (hl : l.length ≤ 1000000)
    (hk : w.cell? ⟨gk, 0, none⟩ = some (.slice A l.length c)) (hx : RowAt (fun b => b < w.heap.size) w A (numCells l)) :
    Calls Tryd.prog 32 #[.pointer (some ⟨gk, 0, none⟩), .pointer (some ⟨g, 0, none⟩)] w (Says (l.any (fun y => decide (y ∈ ownedN x.t))) w) := by
  have HC := Lib.hid (containsFuncN_ok (c := c) l hx rfl hl (ownsC_ok h h1 h2))
  obtain ⟨B, hB⟩ : ∃ B, B = l.any (fun y => decide (y ∈ ownedN x.t)) := ⟨_, rfl⟩
  rw [← hB] at HC ⊢
  obtain ⟨n, hn⟩ : ∃ n, n = l.length := ⟨_, rfl⟩
  rw [← hn] at HC hk
  clear h h1 h2 hl hx hB hn
  unfold Says
  go_enter Tryd.func32, Tryd.ntmps32
  go_wp2_with (go_at_call 33; refine HC.out.mono ?_; rintro e w1 ⟨rfl, hm⟩)
  go_ret
  exact ⟨rfl, hm⟩

/-! ### Check$2: is its network one of those ahead? -/
theorem enterC21 : ∀ (a : Array Value) (W : World), (callFunc 31 a).run Tryd.prog W = .ok (.enter 31 a) W := enters_of Tryd.func31 (by kernel_rfl) rfl
theorem vniEq_ok {g : Nat} {x : TV} {w : World} (h : Held g x w) (y : TV) : Calls Tryd.prog 31 #[.agg y.cells.toArray, .pointer (some ⟨g, 0, none⟩)] w (Says (decide (y.t.vni = x.t.vni)) w) := by
  obtain ⟨CX, hCX⟩ : ∃ CX, CX = y.cells.toArray := ⟨_, rfl⟩
  have hbox := box_ten CX (by rw [hCX]; rfl) w
  obtain ⟨W, hW⟩ : ∃ W, W = w.alloc (.cells CX 30) := ⟨_, rfl⟩
  have hbl : W.heap[w.heap.size]? = some (.cells CX 30 (0, 0)) := by rw [hW]; exact at10 w _
  have m1 : Mod No w W := by rw [hW]; exact (Mod.refl _ _).alloc _
  have c1 : W.cell? ⟨w.heap.size, 1, none⟩ = some (.int .u32 (y.t.vni : Int)) := (blk_cell hbl 1).trans (by rw [hCX]; rfl)
  have c2 : W.cell? ⟨g, 1, none⟩ = some (.int .u32 (x.t.vni : Int)) := (blk_cell (h.keep m1).blk 1).trans rfl
  rw [← hCX]
  have HM := Lib.hid m1
  obtain ⟨a, ha⟩ : ∃ a, a = y.t.vni := ⟨_, rfl⟩
  obtain ⟨b, hb⟩ : ∃ b, b = x.t.vni := ⟨_, rfl⟩
  rw [← ha] at c1 ⊢
  rw [← hb] at c2 ⊢
  clear hbl m1 hCX h ha hb
  unfold Says
  go_enter Tryd.func31, Tryd.ntmps31
  go_upto_region 1 with fail
  rw [← hW]
  clear hW hbox
  go_wp2
  go_ret
  exact ⟨by (show Ending.returned (.bool _) = Ending.returned (.bool _); refine congrArg (fun b => Ending.returned (.bool b)) ?_; first | rfl | (simp; done) | (rw [Bool.eq_iff_iff]; simp only [Bool.or_eq_true, decide_eq_true_eq, beq_iff_eq, true_iff, iff_true]; omega)), HM.out⟩
def anyTen (q : TV → Bool) (l : List TV) : Int := match l.findIdx? q with | some i => i | none => -1
theorem anyTen_hit {q : TV → Bool} {l : List TV} {x : TV} {k : Nat} (h : ∀ y ∈ l.take k, q y = false) (hk : l[k]? = some x) (hx : q x = true) : anyTen q l = k := by
  unfold anyTen
  have : l.findIdx? q = some k := by
    rw [List.findIdx?_eq_some_iff_getElem]
    obtain ⟨hlt, e⟩ := List.getElem?_eq_some_iff.1 hk
    refine ⟨hlt, by rw [e]; exact hx, fun j hj => ?_⟩
    have := h l[j] (by rw [List.mem_take_iff_getElem]; exact ⟨j, by omega, rfl⟩)
    simp [this]
  rw [this]
theorem anyTen_miss {q : TV → Bool} {l : List TV} {k : Nat} (h : ∀ y ∈ l.take k, q y = false) (hk : l.length ≤ k) : anyTen q l = -1 := by
  unfold anyTen
  have : l.findIdx? q = none := by
    rw [List.findIdx?_eq_none_iff]
    intro y hy
    exact h y (by rwa [List.take_of_length_le hk])
  rw [this]
theorem anyTen_iff (q : TV → Bool) (l : List TV) : decide ((0 : Int) ≤ anyTen q l) = l.any q := by
  unfold anyTen
  cases h : l.findIdx? q with
  | some i =>
    obtain ⟨h1, h2, _⟩ := List.findIdx?_eq_some_iff_getElem.1 h
    rw [List.any_eq_true.2 ⟨l[i], List.getElem_mem h1, h2⟩]
    simp
  | none =>
    rw [List.any_eq_false.2 (fun x hx => by have := List.findIdx?_eq_none_iff.1 h x hx; simp [this])]
    rfl
theorem ten_no_next {q : TV → Bool} {l : List TV} {y : TV} {k : Nat} (h : ∀ z ∈ l.take k, q z = false) (hk : l[k]? = some y) (he : q y = false) : ∀ z ∈ l.take (k + 1), q z = false := by
  obtain ⟨hlt, e⟩ := List.getElem?_eq_some_iff.1 hk
  rw [List.take_succ_eq_append_getElem hlt, e]
  intro z hz
  rcases List.mem_append.1 hz with h1 | h1
  · exact h z h1
  · rw [List.mem_singleton.1 h1]; exact he
/-- A tenant read out of a list. -/
theorem tenAt {Q : Nat → Prop} {w : World} {A : Option Addr} {l : List TV} (h : RowAt Q w A (tvCells l)) {k : Nat} {x : TV} (hk : l[k]? = some x) :
    ∃ b o, A = some ⟨b, o, none⟩ ∧ Q b ∧ b < w.heap.size ∧ (tenLoad (.pointer (some ⟨b, o + k * 33, none⟩))).run Tryd.prog w = .ok (.agg x.cells.toArray) w ∧ ∀ (j : Nat) (v : Value), x.cells[j]? = some v → w.cell? ⟨b, o + k * 33 + j, none⟩ = some v := by
  obtain ⟨b, o, e, hq, hlt, hc⟩ := h.elem TV.cells 33 TV.len (by omega) hk
  exact ⟨b, o, e, hq, hlt, tenLoad_mid _ _ _ _ (TV.len x) hc, hc⟩
set_option maxRecDepth 100000 in
theorem indexTen_ok {Q : Nat → Prop} {w : World} {A : Option Addr} {c n fn : Nat} {cp : Value} {q : TV → Bool} (l : List TV) (hx : RowAt Q w A (tvCells l)) (hn : n = l.length) (hl : l.length ≤ 1000000)
    (hen : ∀ (a : Array Value) (W : World), (callFunc fn a).run Tryd.prog W = .ok (.enter fn a) W)
    (hs : ∀ (W : World) (x : TV), Mod No w W → Calls Tryd.prog fn #[.agg x.cells.toArray, cp] W (Says (q x) W)) :
    Calls Tryd.prog 53 #[.slice A n c, .func (.func fn) #[] #[cp]] w fun e w' => e = .returned (.int .i64 (anyTen q l)) ∧ Mod No w w' := by
  obtain ⟨R, hR⟩ : ∃ R, R = anyTen q l := ⟨_, rfl⟩
  rw [← hR]
  have H := Lib.hid (And.intro hx (And.intro hn (And.intro hs hR)))
  rw [← hn] at hl
  clear hx hn hs hR
  go_enter Tryd.func53, Tryd.ntmps53
  go_wp2
  go_loopw [8] (fun i wr => ∃ k : Nat, i = .int .i64 k ∧ k ≤ n ∧ (∀ y ∈ l.take k, q y = false) ∧ Mod No w wr) (fun i _ => n - (intOf i).toNat)
  case atStart => exact ⟨0, rfl, by omega, by simp, Mod.refl _ _⟩
  case round =>
    obtain ⟨k, rfl, hk, hno, hm⟩ := hrel
    have HN := Lib.hid (And.intro hno hm)
    clear hno
    by_cases hkn : k < n
    · obtain ⟨y, hy⟩ : ∃ y, l[k]? = some y := ⟨_, List.getElem?_eq_getElem (by have := H.out.2.1; omega)⟩
      obtain ⟨b, o, rfl, _, _, hld, _⟩ := tenAt ((H.out.1.mono (S' := fun b => Q b ∧ b < w.heap.size) (fun b hb hs => ⟨hs, hb⟩)).keeps (hm.keeps (fun _ _ _ f => f))) hy
      have HY := Lib.hid hy
      have p1 : (0:Int) ≤ k := by omega
      have p2 : (k:Int) < n := by omega
      have hS := H.out.2.2.1 _ y HN.out.2
      obtain ⟨CX, hCX⟩ : ∃ CX, CX = y.cells.toArray := ⟨_, rfl⟩
      rw [← hCX] at hS hld
      have HS := Lib.hid hS
      clear hy hm hS hCX
      cases hqy : q y
      · as_aux_lemma =>
        have HE := Lib.hid hqy
        clear hqy
        go_wp2_with fail
        refine HS.out.mono ?_
        rintro e w1 ⟨rfl, hm1⟩
        have HM := Lib.hid hm1
        clear hm1
        rw [HE.out]
        go_wp2
        exact ⟨⟨k + 1, by go_num, by omega, ten_no_next HN.out.1 HY.out HE.out, HN.out.2.trans HM.out⟩, by simp [intOf]; omega⟩
      · as_aux_lemma =>
        have hfin : (k : Int) = R := by rw [H.out.2.2.2, anyTen_hit HN.out.1 HY.out hqy]
        have HE := Lib.hid (And.intro hqy hfin)
        clear hqy hfin
        go_wp2_with fail
        refine HS.out.mono ?_
        rintro e w1 ⟨rfl, hm1⟩
        have HM := Lib.hid hm1
        clear hm1
        rw [HE.out.1]
        go_wp2
        go_ret
        exact ⟨by rw [← HE.out.2]; rfl, HN.out.2.trans HM.out⟩
    · as_aux_lemma =>
      have hkn' : k = n := by omega
      subst hkn'
      have hfin : (-1 : Int) = R := by rw [H.out.2.2.2, anyTen_miss HN.out.1 (by have := H.out.2.1; omega)]
      have HF := Lib.hid hfin
      clear hfin hm
      go_wp2
      go_ret
      exact ⟨by rw [← HF.out]; rfl, HN.out.2⟩
theorem aheadC_ok {g ga : Nat} {x : TV} {w : World} (h : Held g x w) {Q : Nat → Prop} {A : Option Addr} {c n : Nat} (l : List TV) (hl : l.length ≤ 1000000) (hn : n = l.length)
    (hk : w.cell? ⟨ga, 0, none⟩ = some (.slice A n c)) (hx : RowAt Q w A (tvCells l)) :
    Calls Tryd.prog 29 #[.pointer (some ⟨ga, 0, none⟩), .pointer (some ⟨g, 0, none⟩)] w (Says (l.any (fun y => decide (y.t.vni = x.t.vni))) w) := by
  have h1 := indexTen_ok (c := c) (cp := .pointer (some ⟨g, 0, none⟩)) (q := fun y => decide (y.t.vni = x.t.vni)) l hx hn hl enterC21 (fun W y hW => vniEq_ok (h.keep hW) y)
  have e1 := anyTen_iff (fun y => decide (y.t.vni = x.t.vni)) l
  obtain ⟨R, hR⟩ : ∃ R, R = anyTen (fun y => decide (y.t.vni = x.t.vni)) l := ⟨_, rfl⟩
  obtain ⟨B, hB⟩ : ∃ B, B = l.any (fun y => decide (y.t.vni = x.t.vni)) := ⟨_, rfl⟩
  rw [← hR] at e1 h1
  rw [← hB] at e1 ⊢
  have HI := Lib.hid h1
  have hCF : Calls Tryd.prog 30 #[.slice A n c, .func (.func 31) #[] #[.pointer (some ⟨g, 0, none⟩)]] w (Says B w) := by
    clear h hl hn hx hR hB h1 hk
    unfold Says
    go_enter Tryd.func30, Tryd.ntmps30
    go_wp2_with (go_at_call 53; refine HI.out.mono ?_; rintro e w1 ⟨rfl, hm⟩)
    go_ret
    exact ⟨by first | rfl | simp [e1], hm⟩
  have HC := Lib.hid hCF
  clear h hl hn hx hR hB h1 hCF e1 HI
  unfold Says
  go_enter Tryd.func29, Tryd.ntmps29
  go_wp2_with (go_at_call 30; refine HC.out.mono ?_; rintro e w1 ⟨rfl, hm⟩)
  go_ret
  exact ⟨rfl, hm⟩

end Go.Proofs.YtfpfpeachmcfeaaDoor
