/-
  valid.Tenant's closures over the pool: Tenant$4, Tenant$1$1, Tenant$1$2.
-/
import Derived.Test.YtfpfpeachmcfeaaDoorTenR
namespace Go.Proofs.YtfpfpeachmcfeaaDoor
open Go.RowKit
set_option linter.unusedVariables false
set_option linter.unusedSimpArgs false
attribute [local go_sem ↓] Go.wp_at_zero Go.wp_at_succ

theorem Held.pool {g : Nat} {x : TV} {w : World} (h : Held g x w) : ∃ P p, w.cell? ⟨g, 23, none⟩ = some (.slice P x.t.pool.length p) ∧ RowAt (fun b => b < w.heap.size) w P (numCells x.t.pool) := by
  obtain ⟨P, p, Q, q, R, r, e1, e2, e3, r1, r2, r3⟩ := h.rows
  exact ⟨P, p, (blk_cell h.blk 23).trans (by rw [← e1]; rfl), r1⟩
set_option maxRecDepth 100000 in
theorem poolC_ok {g : Nat} {x : TV} {w : World} (h : Held g x w) (hl : x.t.pool.length ≤ 1000000) : Calls Tryd.prog 45 #[.pointer (some ⟨g, 0, none⟩)] w (Says (badPool x.t) w) := by
  obtain ⟨P, p, c0, hr⟩ := h.pool
  obtain ⟨n, hn⟩ : ∃ n, n = x.t.pool.length := ⟨_, rfl⟩
  obtain ⟨C, hC⟩ : ∃ C, C = decide (0 ∈ x.t.pool) := ⟨_, rfl⟩
  obtain ⟨D, hD⟩ : ∃ D, D = !decide x.t.pool.Nodup := ⟨_, rfl⟩
  have hB : badPool x.t = (decide (8 < n) || C || D) := by rw [hn, hC, hD]; rfl
  have h1 := contains_ok (c := p) x.t.pool 0 hr hn hl
  rw [← hC] at h1
  have h2 := fun (hs : n ≤ 12) => twice_ok (c := p) x.t.pool w hr hn (by omega)
  rw [← hD] at h2
  rw [hB]
  rw [← hn] at c0
  have z0 : ((0 : Nat) : Int) = 0 := rfl
  rw [z0] at h1
  have H1 := Lib.hid h1
  have H2 := Lib.hid h2
  clear hB hn hC hD hr h h1 h2 hl
  unfold Says
  by_cases h8 : 8 < n
  · as_aux_lemma =>
    have p1 : (8:Int) < n := by omega
    have tk1 := trivial
    go_enter Tryd.func45, Tryd.ntmps45
    go_wp2_with fail
    all_goals
      go_ret
      exact ⟨by simp [h8], Mod.refl _ _⟩
  · have p1 : ¬ (8:Int) < n := by omega
    have H3 := Lib.hid (H2.out (by omega))
    cases C
    · as_aux_lemma =>
      go_enter Tryd.func45, Tryd.ntmps45
      go_wp2_with (first
        | (go_at_call 24; refine H1.out.mono ?_; rintro e w1 ⟨rfl, hw⟩; have hw' := hw.symm; clear hw; subst hw')
        | (go_at_call 41; refine H3.out.mono ?_; rintro e w2 ⟨rfl, hm⟩))
      all_goals
        go_ret
        exact ⟨by simp [h8], by first | exact hm | exact Mod.refl _ _⟩
    · as_aux_lemma =>
      go_enter Tryd.func45, Tryd.ntmps45
      go_wp2_with (go_at_call 24; refine H1.out.mono ?_; rintro e w1 ⟨rfl, hw⟩; have hw' := hw.symm; clear hw; subst hw')
      all_goals
        go_ret
        exact ⟨by simp [h8], Mod.refl _ _⟩
theorem enterOwned : ∀ (a : Array Value) (W : World), (callFunc 39 a).run Tryd.prog W = .ok (.enter 39 a) W := enters_of Tryd.func39 (by kernel_rfl) rfl
theorem enterPublic : ∀ (a : Array Value) (W : World), (callFunc 40 a).run Tryd.prog W = .ok (.enter 40 a) W := enters_of Tryd.func40 (by kernel_rfl) rfl
theorem ownedC_ok {g : Nat} {x : TV} {w : World} (h : Held g x w) (hl : x.t.pool.length ≤ 1000000) : TellsN 39 #[.pointer (some ⟨g, 0, none⟩)] (fun y => decide (y ∈ x.t.pool)) w := by
  refine ⟨enterOwned, fun W y hW => ?_⟩
  have h := h.keep hW
  obtain ⟨P, p, c0, hr⟩ := h.pool
  obtain ⟨n, hn⟩ : ∃ n, n = x.t.pool.length := ⟨_, rfl⟩
  have h1 := contains_ok (c := p) x.t.pool y hr hn hl
  obtain ⟨C, hC⟩ : ∃ C, C = decide (y ∈ x.t.pool) := ⟨_, rfl⟩
  rw [← hC] at h1 ⊢
  rw [← hn] at c0
  have H1 := Lib.hid h1
  clear hn hC hr h h1 hl hW
  show Calls Tryd.prog 39 #[.int .u32 (y : Int), .pointer (some ⟨g, 0, none⟩)] W _
  go_enter Tryd.func39, Tryd.ntmps39
  go_wp2_with (go_at_call 24; refine H1.out.mono ?_; rintro e w1 ⟨rfl, hw⟩; have hw' := hw.symm; clear hw; subst hw')
  go_ret
  exact ⟨rfl, Mod.refl _ _⟩
/-- Tenant$1$2, over the box of the first closure and the box of the statics' outsides. -/
theorem publicC_ok {g gf gb : Nat} {x : TV} {w : World} (h : Held g x w) (hl : x.t.pool.length ≤ 1000000) (l : List Nat) (hll : l.length ≤ 1000000) (A : Option Addr) (c : Nat)
    (hf : w.cell? ⟨gf, 0, none⟩ = some (.func (.func 39) #[] #[.pointer (some ⟨g, 0, none⟩)])) (hb : w.cell? ⟨gb, 0, none⟩ = some (.slice A l.length c)) (hx : RowAt (fun b => b < w.heap.size) w A (numCells l)) :
    TellsN 40 #[.pointer (some ⟨gf, 0, none⟩), .pointer (some ⟨gb, 0, none⟩)] (fun y => decide (y ∈ x.t.pool) || decide (y ∈ l)) w := by
  refine ⟨enterPublic, fun W y hW => ?_⟩
  have h1 := ((ownedC_ok h hl).later hW).says
  have hf1 := hW.cell hf (fun f => f)
  have hb1 := hW.cell hb (fun f => f)
  have hx1 := hx.keeps (hW.keeps (fun _ _ _ f => f))
  have hen := enterOwned
  obtain ⟨n, hn⟩ : ∃ n, n = l.length := ⟨_, rfl⟩
  have h2 : ∀ W', Mod No W W' → Calls Tryd.prog 24 #[.slice A n c, .int .u32 (y : Int)] W' fun e w' => e = .returned (.bool (decide (y ∈ l))) ∧ w' = W' := fun W' hW' => contains_ok (c := c) l y (hx1.keeps (hW'.keeps (fun _ _ _ f => f))) hn hll
  obtain ⟨C, hC⟩ : ∃ C, C = decide (y ∈ l) := ⟨_, rfl⟩
  obtain ⟨D, hD⟩ : ∃ D, D = decide (y ∈ x.t.pool) := ⟨_, rfl⟩
  have h3 : Calls Tryd.prog 39 #[.int .u32 (y : Int), .pointer (some ⟨g, 0, none⟩)] W fun e w' => e = .returned (.bool D) ∧ Mod No W w' := by rw [hD]; exact h1 W y (Mod.refl _ _)
  rw [← hC] at h2
  rw [← hC, ← hD]
  rw [← hn] at hb1
  have H2 := Lib.hid h2
  have H3 := Lib.hid h3
  clear hn hC hD h1 h2 h3 hx hx1 hl hll h hf hb hW
  show Calls Tryd.prog 40 #[.int .u32 (y : Int), .pointer (some ⟨gf, 0, none⟩), .pointer (some ⟨gb, 0, none⟩)] W _
  cases D
  · as_aux_lemma =>
    go_enter Tryd.func40, Tryd.ntmps40
    go_wp2_with fail
    refine H3.out.mono ?_
    rintro e w1 ⟨rfl, hm⟩
    have hb2 := hm.cell hb1 (fun f => f)
    have H4 := Lib.hid (And.intro (H2.out _ hm) hm)
    clear hm
    go_wp2_with (go_at_call 24; refine H4.out.1.mono ?_; rintro e w2 ⟨rfl, hw⟩; have hw' := hw.symm; clear hw; subst hw')
    go_ret
    exact ⟨by simp, H4.out.2⟩
  · as_aux_lemma =>
    go_enter Tryd.func40, Tryd.ntmps40
    go_wp2_with fail
    refine H3.out.mono ?_
    rintro e w1 ⟨rfl, hm⟩
    have H4 := Lib.hid hm
    clear hm
    go_wp2
    go_ret
    exact ⟨by simp, H4.out⟩

end Go.Proofs.YtfpfpeachmcfeaaDoor
