/-
  What a tenant owns: owned, Owns; the reference's Owned and Owns.
-/
import Derived.Test.YtfpfpeachmcfeaaDoorVdD
import Derived.Deep.CutBlock
import Derived.Deep.DeepCutAuto
namespace Go.Proofs.YtfpfpeachmcfeaaDoor
open Go.RowKit
set_option linter.unusedVariables false
set_option linter.unusedSimpArgs false
attribute [local go_sem ↓] Go.wp_at_zero Go.wp_at_succ
attribute [local go_sem ↓] store_fold alloc_fold load_fold slice_op_fold ten_zero_fold

/-- What a tenant owns: its pool, and its static pairs' outsides. -/
def ownedN (t : Ten) : List Nat := t.pool ++ rights t.statics
theorem OwnN.open {base : Nat} {w : World} {v : Value} {l : List Nat} (h : OwnN base w v l) : ∃ A c, v = .slice A l.length c ∧ l.length ≤ c ∧ RowAt (fun b => base ≤ b) w A (numCells l) := by
  obtain ⟨A, c, e, hc, hr⟩ := RowAt.of_owns h
  exact ⟨A, c, e, hc, hr⟩
theorem OwnN.lower {base base' : Nat} {w : World} {v : Value} {l : List Nat} (h : OwnN base w v l) (hb : base' ≤ base) : OwnN base' w v l := by
  refine ⟨h.1, ?_⟩
  rcases h.2 with hn | ⟨g, cap, cur, e, hg, rest⟩
  · exact .inl hn
  · exact .inr ⟨g, cap, cur, e, by omega, rest⟩
set_option maxRecDepth 100000 in
theorem owned_ok {S : Nat → Prop} {w : World} (x : TV) (hx : x.Rows S w) (h1 : x.t.pool.length ≤ 100000) (h2 : x.t.statics.length ≤ 100000) :
    Calls Tryd.prog 25 #[.agg x.cells.toArray] w fun e w' => ∃ v, e = .returned v ∧ OwnN w.heap.size w' v (ownedN x.t) ∧ Mod No w w' := by
  obtain ⟨CX, hCX⟩ : ∃ CX, CX = x.cells.toArray := ⟨_, rfl⟩
  have hbox := box_ten CX (by rw [hCX]; rfl) w
  obtain ⟨W, hW⟩ : ∃ W, W = w.alloc (.cells CX 30) := ⟨_, rfl⟩
  have hbl : W.heap[w.heap.size]? = some (.cells CX 30 (0, 0)) := by rw [hW]; exact at10 w _
  have m1 : Mod No w W := by rw [hW]; exact (Mod.refl _ _).alloc _
  have hx1 := (hx.lt (S' := fun b => b < w.heap.size) (fun b hb _ => hb)).keeps (m1.keeps (fun _ _ _ f => f))
  obtain ⟨P, p, Q, q, R, r, e1, e2, e3, r1, r2, r3⟩ := hx1
  have c23 : W.cell? ⟨w.heap.size, 23, none⟩ = some (.slice P x.t.pool.length p) := (blk_cell hbl 23).trans (by rw [hCX, ← e1]; rfl)
  have c27 : W.cell? ⟨w.heap.size, 27, none⟩ = some (.slice Q x.t.statics.length q) := (blk_cell hbl 27).trans (by rw [hCX, ← e2]; rfl)
  have zW : w.heap.size < W.heap.size := lt_of_block hbl
  rw [← hCX]
  have hsd := sides_ok (c := q) x.t.statics r2 rfl (by omega)
  have H := Lib.hid (And.intro r1 (And.intro m1 (And.intro h1 h2)))
  have HS := Lib.hid hsd
  clear hsd r1 r2 r3 m1 h1 h2 hbl hCX hx e1 e2 e3
  go_enter Tryd.func25, Tryd.ntmps25
  go_upto_region 1 with fail
  rw [← hW]
  clear hW hbox
  go_upto_region 2 with (go_at_call 37; refine HS.out.mono ?_; rintro e w1 ⟨va, vb, rfl, oa, ob, hm⟩)
  obtain ⟨B, cb, rfl, _, hrb⟩ := ob.open
  have d23 := hm.cell c23 (fun f => f)
  have z1 := hm.size
  have hcat : ∀ U, Mod No w1 U → (∃ n0, n0 = U.heap.size) → ∀ g, U.heap[g]? = some (.cells #[.slice P x.t.pool.length p, .slice B (rights x.t.statics).length cb] 26 (0, 0)) → Calls Tryd.prog 38 #[.slice (some ⟨g, 0, none⟩) 2 2] U fun e w' => ∃ v, e = .returned v ∧ OwnN U.heap.size w' v (ownedN x.t) ∧ Mod No U w' := fun U hU _ g hg => by
    have hp1 : RowAt (fun b => b < U.heap.size) U P (numCells x.t.pool) := (H.out.1.keeps ((hm.trans hU).keeps (fun _ _ _ f => f))).mono (fun b hb _ => hb)
    have hp2 : RowAt (fun b => b < U.heap.size) U B (numCells (rights x.t.statics)) := (hrb.keeps (hU.keeps (fun _ _ _ f => f))).mono (fun b hb _ => hb)
    have hc := concat_okN32 (S := fun b => b < U.heap.size) (w := U) (Q := some ⟨g, 0, none⟩) (q := 2) [(P, p, numCells x.t.pool), (B, cb, numCells (rights x.t.statics))] (.inr ⟨g, 0, rfl, lt_of_block hg, fun j v hj => by
      rw [Nat.zero_add, blk_cell hg j]
      rw [← hj]
      simp [partVal, numCells_length]⟩) (by simp) (fun b hb => hb) (fun pp hpp => by
        simp only [List.mem_cons, List.not_mem_nil, or_false] at hpp
        rcases hpp with rfl | rfl
        · exact ⟨hp1, numCells_one' _⟩
        · exact ⟨hp2, numCells_one' _⟩) (by
        simp only [partsAll, List.flatMap_cons, List.flatMap_nil, List.append_nil, List.length_append, numCells_length, rights_len]
        have := H.out.2.2
        omega)
    refine hc.mono ?_
    rintro e w' ⟨v, rfl, hv, hm'⟩
    refine ⟨v, rfl, ?_, hm'⟩
    have e1 : partsAll [(P, p, numCells x.t.pool), (B, cb, numCells (rights x.t.statics))] = numCells (ownedN x.t) := by simp [partsAll, ownedN, numCells]
    rw [e1, numCells_length] at hv
    exact hv
  have HC := Lib.hid hcat
  have HM := Lib.hid (And.intro hm (And.intro H.out.2.1 hrb))
  clear hcat hm oa ob c23 c27 hrb
  go_wp2_with (go_at_call 38; refine (HC.out _ (by repeat (first | with_reducible exact Mod.refl _ _ | refine Mod.alloc ?_ _ | refine Mod.drew ?_)) ⟨_, rfl⟩ _ (by first | exact at10 _ _ | exact at10d _ _)).mono ?_; rintro e w2 ⟨v, rfl, hv, hm2⟩; have H2 := Lib.hid (And.intro hv hm2); clear hv hm2)
  go_ret
  have hz := HM.out.1.size
  have hz2 := HM.out.2.1.size
  refine ⟨_, rfl, H2.out.1.lower ?_, (HM.out.2.1.trans HM.out.1).trans (Mod.trans ?_ H2.out.2)⟩
  · simp
    omega
  · repeat (first | with_reducible exact Mod.refl _ _ | refine Mod.alloc ?_ _ | refine Mod.drew ?_)
set_option maxRecDepth 100000 in
theorem owns_ok {S : Nat → Prop} {w : World} (x : TV) (hx : x.Rows S w) (h1 : x.t.pool.length ≤ 100000) (h2 : x.t.statics.length ≤ 100000) (ip : Nat) :
    Calls Tryd.prog 13 #[.agg x.cells.toArray, .int .u32 (ip : Int)] w fun e w' => e = .returned (.bool (decide (ip ∈ ownedN x.t))) ∧ Mod No w w' := by
  obtain ⟨CX, hCX⟩ : ∃ CX, CX = x.cells.toArray := ⟨_, rfl⟩
  have hbox := box_ten CX (by rw [hCX]; rfl) w
  obtain ⟨W, hW⟩ : ∃ W, W = w.alloc (.cells CX 30) := ⟨_, rfl⟩
  have hbl : W.heap[w.heap.size]? = some (.cells CX 30 (0, 0)) := by rw [hW]; exact at10 w _
  have m1 : Mod No w W := by rw [hW]; exact (Mod.refl _ _).alloc _
  have hld := tenLoad_run hbl (by rw [hCX]; rfl)
  have how := owned_ok x (hx.keeps (m1.keeps (fun _ _ _ f => f)) |>.lt (S' := fun _ => True) (fun _ _ _ => trivial)) h1 h2
  rw [← hCX] at how ⊢
  obtain ⟨L, hL⟩ : ∃ L, L = ownedN x.t := ⟨_, rfl⟩
  have hLl : L.length ≤ 1000000 := by rw [hL, ownedN, List.length_append, rights_len]; omega
  rw [← hL] at how ⊢
  obtain ⟨z, hz⟩ : ∃ z : Int, z = (ip : Int) := ⟨_, rfl⟩
  rw [← hz]
  have H := Lib.hid (And.intro how (And.intro m1 (And.intro hLl hz)))
  clear how m1 hx hbl hCX hLl hz h1 h2 hL
  go_enter Tryd.func13, Tryd.ntmps13
  go_upto_region 1 with fail
  rw [← hW]
  clear hW hbox
  go_wp2_with (first
    | (go_at_call 25; refine H.out.1.mono ?_; rintro e w1 ⟨v, rfl, hv, hm⟩; obtain ⟨A, c, rfl, _, hr⟩ := hv.open; have H1 := Lib.hid (And.intro hr hm); clear hv hr hm)
    | (go_at_call 24; rw [H.out.2.2.2]; refine (contains_ok L ip H1.out.1 rfl H.out.2.2.1).mono ?_; rintro e w2 ⟨rfl, hw⟩))
  go_ret
  subst hw
  exact ⟨rfl, H.out.2.1.trans H1.out.2⟩

/-! ### the reference's -/
theorem mem_owned {t : Ten} {ip : Nat} : ip ∈ ownedN t ↔ (∃ p ∈ t.statics, p.b = ip) ∨ ip ∈ t.pool := by
  unfold ownedN rights
  rw [List.mem_append, List.mem_map]
  exact or_comm
set_option maxRecDepth 100000 in
theorem refOwns_ok {S : Nat → Prop} {w : World} (x : TV) (hx : x.Rows S w) (h1 : x.t.pool.length ≤ 100000) (h2 : x.t.statics.length ≤ 100000) (ip : Nat) :
    Calls Tryd.prog 14 #[.agg x.cells.toArray, .int .u32 (ip : Int)] w fun e w' => e = .returned (.bool (decide (ip ∈ ownedN x.t))) ∧ Mod No w w' := by
  obtain ⟨CX, hCX⟩ : ∃ CX, CX = x.cells.toArray := ⟨_, rfl⟩
  have hbox := box_ten CX (by rw [hCX]; rfl) w
  obtain ⟨W, hW⟩ : ∃ W, W = w.alloc (.cells CX 30) := ⟨_, rfl⟩
  have hbl : W.heap[w.heap.size]? = some (.cells CX 30 (0, 0)) := by rw [hW]; exact at10 w _
  have m1 : Mod No w W := by rw [hW]; exact (Mod.refl _ _).alloc _
  obtain ⟨P, p, Q, q, R, r, e1, e2, e3, r1, r2, r3⟩ := hx.keeps (m1.keeps (fun _ _ _ f => f))
  have c23 : W.cell? ⟨w.heap.size, 23, none⟩ = some (.slice P x.t.pool.length p) := (blk_cell hbl 23).trans (by rw [hCX, ← e1]; rfl)
  obtain ⟨n, hn⟩ : ∃ n, n = x.t.statics.length := ⟨_, rfl⟩
  have c27 : W.cell? ⟨w.heap.size, 27, none⟩ = some (.slice Q n q) := (blk_cell hbl 27).trans (by rw [hCX, hn, ← e2]; rfl)
  have zW : w.heap.size < W.heap.size := lt_of_block hbl
  rw [← hCX]
  obtain ⟨z, hz⟩ : ∃ z : Int, z = (ip : Int) := ⟨_, rfl⟩
  have hin := in_ok (c := p) x.t.pool ip r1 rfl (by omega)
  rw [← hz] at hin ⊢
  have hn1 : n ≤ 100000 := by omega
  obtain ⟨m, hm⟩ : ∃ m, m = x.t.pool.length := ⟨_, rfl⟩
  obtain ⟨R0, hR0⟩ : ∃ R0, R0 = decide (ip ∈ ownedN x.t) := ⟨_, rfl⟩
  obtain ⟨I0, hI0⟩ : ∃ I0, I0 = decide (ip ∈ x.t.pool) := ⟨_, rfl⟩
  rw [← hI0] at hin
  rw [← hR0]
  rw [← hm] at c23 hin
  have H := Lib.hid (And.intro hin (And.intro m1 (And.intro hn (And.intro hz (And.intro r2 (And.intro hR0 hI0))))))
  clear hin m1 hn hz r1 r2 r3 hx h1 h2 e1 e2 e3 hm hbl hCX hR0 hI0
  go_enter Tryd.func14, Tryd.ntmps14
  go_upto_region 1 with fail
  rw [← hW]
  clear hW hbox
  go_wp2
  go_loopw [5] (fun i wr => ∃ k : Nat, i = .int .i64 k ∧ k ≤ n ∧ (∀ y ∈ x.t.statics.take k, y.b ≠ ip) ∧ W = wr) (fun i _ => n - (intOf i).toNat)
  case atStart => exact ⟨0, rfl, by omega, by simp, rfl⟩
  case round =>
    obtain ⟨k, rfl, hk, hno, rfl⟩ := hrel
    have HN := Lib.hid hno
    clear hno
    by_cases hkn : k < n
    · obtain ⟨y, hy⟩ : ∃ y, x.t.statics[k]? = some y := ⟨_, List.getElem?_eq_getElem (by have := H.out.2.2.1; omega)⟩
      obtain ⟨b, o, rfl, _, _, _, hc⟩ := pr_at H.out.2.2.2.2.1 hy
      obtain ⟨v, hv⟩ : ∃ v : Int, v = (y.b : Int) := ⟨_, rfl⟩
      rw [← hv] at hc
      have HY := Lib.hid (And.intro hy hv)
      have p1 : (0:Int) ≤ k := by omega
      have p2 : (k:Int) < n := by omega
      clear hy hv
      by_cases he : y.b = ip
      · as_aux_lemma =>
        have t : (v == z) = true := by rw [HY.out.2, H.out.2.2.2.1]; exact beq_iff_eq.2 (by omega)
        have hfin : true = R0 := by rw [H.out.2.2.2.2.2.1]; exact (decide_eq_true (mem_owned.2 (.inl ⟨y, List.mem_of_getElem? HY.out.1, he⟩))).symm
        have HF := Lib.hid hfin
        clear he hfin
        go_wp2
        go_ret
        exact ⟨by rw [← HF.out]; rfl, H.out.2.1⟩
      · as_aux_lemma =>
        have t : (v == z) = false := by rw [HY.out.2, H.out.2.2.2.1]; exact beq_eq_false_iff_ne.2 (by omega)
        have HE := Lib.hid he
        clear he
        go_wp2
        refine ⟨⟨k + 1, by go_num, by omega, ?_, by first | rfl | trivial⟩, by simp [intOf]; omega⟩
        obtain ⟨hlt, e⟩ := List.getElem?_eq_some_iff.1 HY.out.1
        rw [List.take_succ_eq_append_getElem hlt, e]
        intro p hp
        rcases List.mem_append.1 hp with h1 | h1
        · exact HN.out p h1
        · obtain rfl : p = y := by simpa using h1
          exact HE.out
    · as_aux_lemma =>
      have hkn' : k = n := by omega
      subst hkn'
      have hfin : I0 = R0 := by
        have hno := HN.out
        rw [List.take_of_length_le (by have := H.out.2.2.1; omega)] at hno
        rw [H.out.2.2.2.2.2.1, H.out.2.2.2.2.2.2, decide_eq_decide, mem_owned]
        exact ⟨.inr, fun h => h.elim (fun ⟨p, hp, e⟩ => absurd e (hno p hp)) id⟩
      have HF := Lib.hid hfin
      clear hfin
      go_wp2_with (go_at_call 26; refine H.out.1.mono ?_; rintro e w2 ⟨rfl, hw⟩)
      go_ret
      subst hw
      exact ⟨by rw [← HF.out]; rfl, H.out.2.1⟩

end Go.Proofs.YtfpfpeachmcfeaaDoor
