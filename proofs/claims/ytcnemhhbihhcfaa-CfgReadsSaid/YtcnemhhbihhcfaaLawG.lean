/-
  What the laws call besides: two changes held against one another.
-/
import Derived.Test.YtcnemhhbihhcfaaLawE
namespace Go.Proofs.Ytcnemhhbihhcfaa
open Go.RowKit
set_option linter.unusedVariables false

theorem infoChg : (Try.prog.info? 38).map (fun i => (i.zero, i.size)) = some (some (.agg zChg), 35) := by kernel_rfl
theorem list35' {α : Type} : ∀ (l : List α), l.length = 35 → ∃ c0 c1 c2 c3 c4 c5 c6 c7 c8 c9 c10 c11 c12 c13 c14 c15 c16 c17 c18 c19 c20 c21 c22 c23 c24 c25 c26 c27 c28 c29 c30 c31 c32 c33 c34, l = [c0, c1, c2, c3, c4, c5, c6, c7, c8, c9, c10, c11, c12, c13, c14, c15, c16, c17, c18, c19, c20, c21, c22, c23, c24, c25, c26, c27, c28, c29, c30, c31, c32, c33, c34]
  | c0 :: c1 :: c2 :: c3 :: c4 :: c5 :: c6 :: c7 :: c8 :: c9 :: c10 :: c11 :: c12 :: c13 :: c14 :: c15 :: c16 :: c17 :: c18 :: c19 :: c20 :: c21 :: c22 :: c23 :: c24 :: c25 :: c26 :: c27 :: c28 :: c29 :: c30 :: c31 :: c32 :: c33 :: c34 :: [], _ => ⟨c0, c1, c2, c3, c4, c5, c6, c7, c8, c9, c10, c11, c12, c13, c14, c15, c16, c17, c18, c19, c20, c21, c22, c23, c24, c25, c26, c27, c28, c29, c30, c31, c32, c33, c34, rfl⟩
set_option maxRecDepth 100000 in
theorem chg_build (CA : Array Value) (h : CA.size = 35) : ∀ W, (Instr.buildSlice 64 1 #[(0, .agg CA)]).run Try.prog W = .ok (.slice (some ⟨W.heap.size, 0, none⟩) 1 1) (W.alloc (.cells CA 38)) := by
  intro W
  have hi := infoChg
  cases hie : Try.prog.info? 38 with
  | none => rw [hie] at hi; simp at hi
  | some ie =>
    rw [hie] at hi
    simp only [Option.map_some, Option.some.injEq, Prod.mk.injEq] at hi
    refine Go.run_buildSlice W _ 38 1 _ CA ie _ Try.underlying64 hie hi.1 (by rw [hi.2]; decide) (by rw [hi.2]; decide) ?_
    rw [hi.2]
    obtain ⟨l⟩ := CA
    obtain ⟨c0, c1, c2, c3, c4, c5, c6, c7, c8, c9, c10, c11, c12, c13, c14, c15, c16, c17, c18, c19, c20, c21, c22, c23, c24, c25, c26, c27, c28, c29, c30, c31, c32, c33, c34, rfl⟩ := list35' l (by simpa using h)
    kernel_rfl
def chgSlice (v : Value) : Sem Value := Instr.buildSlice 64 1 #[(0, v)]
@[go_sem ↓] theorem chg_slice_fold (ρ : Operand → Value) (x : Operand) (dst : Option Tmp) (ty : TypeId) (pos : String) (after : Array Edge) (g : Option (Nat × Bool)) :
    execOp ρ { dst := dst, op := .buildSlice 64 1 #[(0, x)], type := ty, pos := pos, after := after, guard := g } = (do pure (Next.value (← chgSlice (ρ x))) : Sem Next) := by
  show (do pure (Next.value (← Instr.buildSlice 64 1 (#[(0, x)].map fun (i, x) => (i, ρ x)))) : Sem Next) = _
  have hm : (#[((0 : Nat), x)].map fun (i, x) => (i, ρ x)) = #[(0, ρ x)] := by simp
  rw [hm]
  rfl
theorem chgSlice_run (CA : Array Value) (h : CA.size = 35) : ∀ W : World, (chgSlice (.agg CA)).run Try.prog W = .ok (.slice (some ⟨W.heap.size, 0, none⟩) 1 1) (W.alloc (.cells CA 38)) := chg_build CA h

set_option maxRecDepth 100000 in
set_option maxHeartbeats 2000000 in
theorem changes_same {S S' : Nat → Prop} {w : World} (put : Bool) (name : List UInt8) {x y : TV} {g g' : Nat} (hg : w.heap[g]? = some (.cells (cChg put name x) 38 (0, 0))) (hg' : w.heap[g']? = some (.cells (cChg put name y) 38 (0, 0)))
    (hx : x.Rows S w) (hy : y.Rows S' w) (he : x.t = y.t) (hl : y.t.pool.length ≤ 300 ∧ y.t.statics.length ≤ 300 ∧ y.t.twices.length ≤ 300) :
    Calls Try.prog 30 #[.slice (some ⟨g, 0, none⟩) 1 1, .slice (some ⟨g', 0, none⟩) 1 1] w fun e w' => e = .returned (.bool true) ∧ Mod No w w' := by
  have H0 := Lib.hid (And.intro hg (And.intro hg' (And.intro hx (And.intro hy (And.intro he hl)))))
  clear hg hg' hx hy he hl
  go_enter Try.func30, Try.ntmps30
  go_wp2
  go_loopw [5] (fun i wr => ∃ j : Nat, i = .int .i64 j ∧ j ≤ 1 ∧ Mod No w wr) (fun i _ => 1 - (intOf i).toNat)
  case atStart => exact ⟨0, rfl, by omega, Mod.refl _ _⟩
  case round =>
    obtain ⟨j, rfl, hj, hmw⟩ := hrel
    have HM := Lib.hid hmw
    clear hmw
    by_cases hlt : j < 1
    · obtain rfl : j = 0 := by omega
      have b1 := HM.out.obj H0.out.1 id
      have b2 := HM.out.obj H0.out.2.1 id
      obtain ⟨sn, hsn⟩ : ∃ sn, sn = str name := ⟨_, rfl⟩
      obtain ⟨TX, hTX⟩ : ∃ TX, TX = x.cells.toArray := ⟨_, rfl⟩
      obtain ⟨TY, hTY⟩ : ∃ TY, TY = y.cells.toArray := ⟨_, rfl⟩
      have hS : ∀ W, Mod No wr W → W.cell? ⟨g, 0, none⟩ = some (.bool put) ∧ W.cell? ⟨g', 0, none⟩ = some (.bool put) ∧ W.cell? ⟨g, 1, none⟩ = some (.string sn) ∧ W.cell? ⟨g', 1, none⟩ = some (.string sn) ∧
          (tenLoad (.pointer (some ⟨g, 2, none⟩))).run Try.prog W = .ok (.agg TX) W ∧ (tenLoad (.pointer (some ⟨g', 2, none⟩))).run Try.prog W = .ok (.agg TY) W := fun W hW => by
        have b1 := hW.obj b1 id
        have b2 := hW.obj b2 id
        rw [hsn, hTX, hTY]
        exact ⟨(blk_cell b1 0).trans (cChg0 put name x), (blk_cell b2 0).trans (cChg0 put name y), (blk_cell b1 1).trans (cChg1 put name x), (blk_cell b2 1).trans (cChg1 put name y), chgTen_run b1, chgTen_run b2⟩
      have hs : ∀ W, Mod No wr W → Calls Try.prog 12 #[.agg TX, .agg TY] W fun e w' => e = .returned (.bool true) ∧ Mod No W w' := fun W hW => by
        have hkd : ∀ S, Keeps S w W := fun S => (HM.out.trans hW).keeps (fun _ _ _ f => f)
        rw [hTX, hTY]
        exact tenant_same (w := W) (H0.out.2.2.1.keeps (hkd _)) (H0.out.2.2.2.1.keeps (hkd _)) H0.out.2.2.2.2.1 H0.out.2.2.2.2.2.1 H0.out.2.2.2.2.2.2.1 H0.out.2.2.2.2.2.2.2
      have HS := Lib.hid hs
      have HSS := Lib.hid hS
      have q0 : (put == put) = true := by cases put <;> rfl
      have q1 : (put != put) = false := by cases put <;> rfl
      have q2 : (sn.toList != sn.toList) = false := by simp
      have q3 : (sn.toList == sn.toList) = true := by simp
      clear b1 b2 hs hTX hTY hS hsn
      go_wp2_with fail
      go_region_held3 (fun W => W.cell? ⟨g, 0, none⟩ = some (.bool put) ∧ W.cell? ⟨g', 0, none⟩ = some (.bool put) ∧ W.cell? ⟨g, 1, none⟩ = some (.string sn) ∧ W.cell? ⟨g', 1, none⟩ = some (.string sn) ∧
          (tenLoad (.pointer (some ⟨g, 2, none⟩))).run Try.prog W = .ok (.agg TX) W ∧ (tenLoad (.pointer (some ⟨g', 2, none⟩))).run Try.prog W = .ok (.agg TY) W)
        (exact HSS.out _ (by (repeat (first | with_reducible exact Mod.refl _ _ | with_reducible refine Mod.trans ?_ m9 | refine Mod.drew ?_))))
        (first
          | (go_at_call 12; refine (HS.out _ ?_).mono ?_; (repeat (first | with_reducible exact Mod.refl _ _ | refine Mod.drew ?_)); rintro e w9 ⟨rfl, m9⟩))
      all_goals
        go_wp2
        exact ⟨⟨1, by go_num, by omega, HM.out.trans (by (repeat (first | with_reducible exact Mod.refl _ _ | with_reducible refine Mod.trans ?_ m9 | refine Mod.drew ?_)))⟩, by simp [intOf]⟩
    · obtain rfl : j = 1 := by omega
      go_wp2
      go_ret
      exact ⟨rfl, HM.out⟩

end Go.Proofs.Ytcnemhhbihhcfaa
