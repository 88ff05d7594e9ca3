/-
  What the laws call besides: is nothing cut off; a number out of any number.
-/
import Derived.Test.YtcnemhhbihhcfaaRdI
import Derived.Test.YtcnemhhbihhcfaaRdQ
namespace Go.Proofs.Ytcnemhhbihhcfaa
open Go.RowKit
set_option linter.unusedVariables false

def FitsP (t : Ten) (w : World) (e : Ending) (w' : World) : Prop := ∃ b, e = .returned (.bool b) ∧ (b = true → t.Fits) ∧ Mod No w w'
theorem int_dec {p : Prop} [Decidable p] (h : p) : decide p = true := decide_eq_true h
theorem int_ndec {p : Prop} [Decidable p] (h : ¬ p) : decide p = false := decide_eq_false h

set_option maxRecDepth 100000 in
set_option maxHeartbeats 2000000 in
theorem fits_ok {w : World} (x : TV) (h : x.Rows (fun _ => True) w) :
    Calls Try.prog 13 #[.agg x.cells.toArray] w (FitsP x.t w) := by
  obtain ⟨t, vp, vs, vt⟩ := x
  obtain ⟨P, p, Q, q, R, r, e1, e2, e3, _⟩ := h
  simp only at e1 e2 e3
  subst e1 e2 e3
  obtain ⟨CA, hCA⟩ : ∃ CA, CA = (TV.cells ⟨t, .slice P t.pool.length p, .slice Q t.statics.length q, .slice R t.twices.length r⟩).toArray := ⟨_, rfl⟩
  rw [← hCA]
  have bA := box_ten CA (by rw [hCA]; rfl)
  obtain ⟨W, hW⟩ : ∃ W, W = w.alloc (.cells CA 30) := ⟨_, rfl⟩
  have hm : Mod No w W := by rw [hW]; exact (Mod.refl _ _).alloc _
  have hb : W.heap[w.heap.size]? = some (.cells CA 30 (0, 0)) := by rw [hW]; exact at10 w _
  have c0 : W.cell? ⟨w.heap.size, 0, none⟩ = some (.string (str t.name)) := by rw [blk_cell hb, hCA]; rfl
  have c23 : W.cell? ⟨w.heap.size, 23, none⟩ = some (.slice P t.pool.length p) := by rw [blk_cell hb, hCA]; rfl
  have c26 : W.cell? ⟨w.heap.size, 26, none⟩ = some (.int .i64 t.filter) := by rw [blk_cell hb, hCA]; rfl
  have c27 : W.cell? ⟨w.heap.size, 27, none⟩ = some (.slice Q t.statics.length q) := by rw [blk_cell hb, hCA]; rfl
  have c28 : W.cell? ⟨w.heap.size, 28, none⟩ = some (.slice R t.twices.length r) := by rw [blk_cell hb, hCA]; rfl
  have c29 : W.cell? ⟨w.heap.size, 29, none⟩ = some (.int .i64 t.sess) := by rw [blk_cell hb, hCA]; rfl
  have c30 : W.cell? ⟨w.heap.size, 30, none⟩ = some (.int .i64 t.queue) := by rw [blk_cell hb, hCA]; rfl
  have hsz := str_size t.name
  obtain ⟨n0, hn0⟩ : ∃ n, n = t.name.length := ⟨_, rfl⟩
  obtain ⟨n1, hn1⟩ : ∃ n, n = t.pool.length := ⟨_, rfl⟩
  obtain ⟨n2, hn2⟩ : ∃ n, n = t.statics.length := ⟨_, rfl⟩
  obtain ⟨n3, hn3⟩ : ∃ n, n = t.twices.length := ⟨_, rfl⟩
  obtain ⟨z1, hz1⟩ : ∃ n, n = t.filter := ⟨_, rfl⟩
  obtain ⟨z2, hz2⟩ : ∃ n, n = t.sess := ⟨_, rfl⟩
  obtain ⟨z3, hz3⟩ : ∃ n, n = t.queue := ⟨_, rfl⟩
  have hfit : n0 ≤ 255 → n1 ≤ 255 → n2 ≤ 255 → n3 ≤ 255 → 0 ≤ z1 → z1 ≤ 255 → 0 ≤ z2 → z2 ≤ 65535 → 0 ≤ z3 → z3 ≤ 65535 → t.Fits := fun a b c d e f g h i j => ⟨by omega, by omega, by omega, by omega, ⟨by omega, by omega⟩, ⟨by omega, by omega⟩, ⟨by omega, by omega⟩⟩
  rw [← hn0] at hsz
  rw [← hn1] at c23
  rw [← hn2] at c27
  rw [← hn3] at c28
  rw [← hz1] at c26
  rw [← hz2] at c29
  rw [← hz3] at c30
  have HM := Lib.hid hm
  have HW := Lib.hid hW
  have HF := Lib.hid hfit
  rw [hW] at c0 c23 c26 c27 c28 c29 c30 HM
  clear hm hb hCA hW hn0 hn1 hn2 hn3 hz1 hz2 hz3 hfit HW W
  have fin : ∀ b, (b = true → t.Fits) → FitsP t w (.returned (.bool b)) (w.alloc (.cells CA 30)) := fun b hb => ⟨b, rfl, hb, HM.out⟩
  have HFIN := Lib.hid fin
  clear fin
  by_cases q0 : (n0 : Int) ≤ 255
  · have d0 := int_dec q0
    by_cases q1 : (n1 : Int) ≤ 255
    · have d1 := int_dec q1
      by_cases q2 : (n2 : Int) ≤ 255
      · have d2 := int_dec q2
        by_cases q3 : (n3 : Int) ≤ 255
        · have d3 := int_dec q3
          by_cases q4 : 0 ≤ z1
          · have d4 := int_dec q4
            by_cases q5 : z1 ≤ 255
            · have d5 := int_dec q5
              by_cases q6 : 0 ≤ z2
              · have d6 := int_dec q6
                by_cases q7 : z2 ≤ 65535
                · have d7 := int_dec q7
                  by_cases q8 : 0 ≤ z3
                  · have d8 := int_dec q8
                    by_cases q9 : z3 ≤ 65535
                    · have d9 := int_dec q9
                      have HF2 := Lib.hid (HF.out (by omega) (by omega) (by omega) (by omega) q4 q5 q6 q7 q8 q9)
                      go_enter Try.func13, Try.ntmps13
                      go_wp2
                      go_ret
                      exact HFIN.out true (fun _ => HF2.out)
                    · have d9 := int_ndec q9
                      go_enter Try.func13, Try.ntmps13
                      go_wp2
                      go_ret
                      exact HFIN.out false (by simp)
                  · have d8 := int_ndec q8
                    go_enter Try.func13, Try.ntmps13
                    go_wp2
                    go_ret
                    exact HFIN.out false (by simp)
                · have d7 := int_ndec q7
                  go_enter Try.func13, Try.ntmps13
                  go_wp2
                  go_ret
                  exact HFIN.out false (by simp)
              · have d6 := int_ndec q6
                go_enter Try.func13, Try.ntmps13
                go_wp2
                go_ret
                exact HFIN.out false (by simp)
            · have d5 := int_ndec q5
              go_enter Try.func13, Try.ntmps13
              go_wp2
              go_ret
              exact HFIN.out false (by simp)
          · have d4 := int_ndec q4
            go_enter Try.func13, Try.ntmps13
            go_wp2
            go_ret
            exact HFIN.out false (by simp)
        · have d3 := int_ndec q3
          go_enter Try.func13, Try.ntmps13
          go_wp2
          go_ret
          exact HFIN.out false (by simp)
      · have d2 := int_ndec q2
        go_enter Try.func13, Try.ntmps13
        go_wp2
        go_ret
        exact HFIN.out false (by simp)
    · have d1 := int_ndec q1
      go_enter Try.func13, Try.ntmps13
      go_wp2
      go_ret
      exact HFIN.out false (by simp)
  · have d0 := int_ndec q0
    go_enter Try.func13, Try.ntmps13
    go_wp2
    go_ret
    exact HFIN.out false (by simp)

def PlaceP (n : Nat) (w : World) (e : Ending) (w' : World) : Prop := ∃ j : Nat, e = .returned (.int .i64 (j : Int)) ∧ j < n ∧ w' = w
theorem place_ok (w : World) (k : Int) (n : Nat) (h0 : 0 < n) (hn : n ≤ 100000000) : Calls Try.prog 16 #[.int .i64 k, .int .i64 n] w (PlaceP n w) := by
  have hne : ¬ (n : Int) = 0 := by omega
  have p0 : (0 : Int) < n := by omega
  have hlt := Int.tmod_lt_of_pos k p0
  have hgt := Int.lt_tmod_of_pos k p0
  obtain ⟨m, hm⟩ : ∃ m, k.tmod n = m := ⟨_, rfl⟩
  rw [hm] at hlt hgt
  by_cases hneg : m < 0
  · have d := int_dec hneg
    have HF := Lib.hid (show PlaceP n w (.returned (.int .i64 (m + n))) w from ⟨(m + n).toNat, by congr 2; omega, by omega, rfl⟩)
    go_enter Try.func16, Try.ntmps16
    go_wp2
    go_ret
    exact HF.out
  · have d := int_ndec hneg
    have HF := Lib.hid (show PlaceP n w (.returned (.int .i64 m)) w from ⟨m.toNat, by congr 2; omega, by omega, rfl⟩)
    go_enter Try.func16, Try.ntmps16
    go_wp2
    go_ret
    exact HF.out

end Go.Proofs.Ytcnemhhbihhcfaa
