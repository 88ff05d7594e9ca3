/-
  slices.Compact at a row of one's own, slices.Clone, twice at lists of at most twelve.
-/
import Derived.Test.YtfpfpeachmcfeaaDoorSortO
import Derived.Lib.SliceRun
namespace Go.Proofs.YtfpfpeachmcfeaaDoor
open Go.RowKit
set_option linter.unusedVariables false
set_option linter.unusedSimpArgs false
attribute [local go_sem ↓] Go.wp_at_zero Go.wp_at_succ

theorem Mod.setCells {F : Nat → Prop} {a : World} {b : Nat} (hb : a.heap.size ≤ b ∨ F b) : ∀ (vs : List Value) (o : Nat) {w : World}, Mod F a w → Mod F a (w.setCells b o vs)
  | [], _, _, h => h
  | v :: vs, o, _, h => Mod.setCells hb vs (o + 1) (h.setCell (p := ⟨b, o, none⟩) hb v)
theorem zeroN (w : World) : (zeroValue 22).run Tryd.prog w = .ok (.int .u32 0) w := by kernel_rfl
/-- Ahead of n no two neighbours are one. -/
def Apart (l : List Nat) (n : Nat) : Prop := ∀ j, 0 < j → j < n → At l j ≠ At l (j - 1)
def CompP (g n cap : Nat) (w : World) (l : List Nat) : Ending → World → Prop := fun e w' => ∃ k : Nat, e = .returned (.slice (some ⟨g, 0, none⟩) k cap) ∧ Mod (fun b => b = g) w w' ∧ k ≤ n ∧ (k = n ↔ Apart l n)
set_option maxRecDepth 100000 in
set_option maxHeartbeats 2000000 in
theorem compact_ok {base : Nat} {w : World} {l : List Nat} {g n cap : Nat} (h : OwnN base w (.slice (some ⟨g, 0, none⟩) n cap) l) (hn : n = l.length) (hl : n ≤ 1000000) :
    Calls Tryd.prog 58 #[.slice (some ⟨g, 0, none⟩) n cap] w (CompP g n cap w l) := by
  obtain ⟨QQ, hQQ⟩ : ∃ QQ, QQ = CompP g n cap w l := ⟨_, rfl⟩
  rw [← hQQ]
  have hcap : n ≤ cap := by
    rcases h.2 with ⟨h1, _⟩ | ⟨g', cap', cur, he, _, _, hn', _⟩
    · cases h1
    · cases he; omega
  have H := Lib.hid (And.intro h (And.intro hn hQQ))
  clear h hn hQQ
  by_cases h2 : n < 2
  · have t1 : (n : Int) < 2 := by omega
    go_enter Tryd.func58, Tryd.ntmps58
    go_wp2
    rw [H.out.2.2]
    exact ⟨n, rfl, Mod.refl _ _, Nat.le_refl _, ⟨fun _ j h0 h1 => by omega, fun _ => rfl⟩⟩
  · have t1 : ¬ (n : Int) < 2 := by omega
    go_enter Tryd.func58, Tryd.ntmps58
    go_wp2
    go_loopw [3] (fun i wr => ∃ (k : Nat), i = .int .i64 k ∧ 1 ≤ k ∧ k ≤ n ∧ Apart l k ∧ Mod No w wr) (fun i _ => n - (intOf i).toNat)
    case atStart => exact ⟨1, rfl, by omega, by omega, fun j h0 h1 => by omega, Mod.refl _ _⟩
    case round =>
      obtain ⟨k, rfl, hk1, hkn, ha, hm⟩ := hrel
      have ho := H.out.1.mod hm (fun _ _ f => f)
      have HR := Lib.hid (And.intro ha (And.intro hm ho))
      clear ha hm
      by_cases hlt : k < n
      · have p2 : (k : Int) < n := by omega
        obtain ⟨g', cap', he, _, hg2, _, hcell, hfr⟩ := ho.form (by rw [← H.out.2.1]; omega)
        obtain ⟨e1, e2, e3⟩ := Value.slice.inj he
        cases e1
        subst e3
        clear e2 he ho
        have c1 := hcell k _ (At_get (by rw [← H.out.2.1]; omega))
        have c2 := hcell (k - 1) _ (At_get (by rw [← H.out.2.1]; omega))
        obtain ⟨a, haa⟩ : ∃ a, a = At l k := ⟨_, rfl⟩
        obtain ⟨b, hbb⟩ : ∃ b, b = At l (k - 1) := ⟨_, rfl⟩
        rw [← haa] at c1
        rw [← hbb] at c2
        have HN := Lib.hid (And.intro haa hbb)
        clear haa hbb hcell hfr
        have i1 : ((k : Int) - 1) = ((k - 1 : Nat) : Int) := by omega
        have p1 : (0:Int) ≤ k := by omega
        have p3 : (0:Int) ≤ ((k - 1 : Nat) : Int) := by omega
        have p4 : ((k - 1 : Nat) : Int) < n := by omega
        by_cases hab : a = b
        · subst hab
          go_wp2_with fail
          go_region
          all_goals
            go_wp2_with fail
            go_loopw [3, 5] (fun i i2 wx => ∃ (kk k2 : Nat) (m : List Nat), i = .int .i64 kk ∧ i2 = .int .i64 k2 ∧ 1 ≤ kk ∧ 1 ≤ k2 ∧ kk + 1 ≤ k + k2 ∧ k + k2 ≤ n ∧ m.length = n ∧ OwnN base wx (.slice (some ⟨g, 0, none⟩) n cap) m ∧ Mod (fun b => b = g) w wx) (fun i i2 _ => n - (intOf i2).toNat)
            case atStart => exact ⟨k, 1, l, rfl, rfl, hk1, by omega, by omega, by omega, H.out.2.1.symm, by first | exact HR.out.2.2 | exact HR.out.2.2.mod (Mod.refl No _).drew (fun _ _ f => f), by first | exact HR.out.2.1.mono (fun _ f => f.elim) | exact (HR.out.2.1.mono (fun _ f => f.elim)).drew⟩
            case round =>
              clear c1 c2 hg2
              obtain ⟨kk, k2, m, rfl, rfl, hkk, hk2, hle, hkn2, hml, ho, hm⟩ := hrel
              obtain ⟨g', cap', he, _, hg2, _, hcell, hfr⟩ := ho.form (by omega)
              obtain ⟨e1, e2, e3⟩ := Value.slice.inj he
              cases e1
              subst e3
              clear e2 he
              have HX := Lib.hid (And.intro ho hm)
              clear ho hm
              by_cases hlt2 : k + k2 < n
              · have d1 := hcell (k + k2) _ (At_get (by omega))
                have d2 := hcell (k + (k2 - 1)) _ (At_get (by omega))
                have f1 := hfr kk
                obtain ⟨x, hx⟩ : ∃ x, x = At m (k + k2) := ⟨_, rfl⟩
                obtain ⟨y, hy⟩ : ∃ y, y = At m (k + (k2 - 1)) := ⟨_, rfl⟩
                obtain ⟨z, hz⟩ : ∃ z, z = At m kk := ⟨_, rfl⟩
                have d3 := hcell kk _ (At_get (by omega))
                rw [← hx] at d1
                rw [← hy] at d2
                rw [← hz] at d3
                have q1 : ((k2 : Int) - 1) = ((k2 - 1 : Nat) : Int) := by omega
                have q2 : (0:Int) ≤ k2 := by omega
                have q3 : (k2:Int) < (n - k : Nat) := by omega
                have q4 : (0:Int) ≤ ((k2 - 1 : Nat) : Int) := by omega
                have q5 : ((k2 - 1 : Nat) : Int) < (n - k : Nat) := by omega
                have q6 : (0:Int) ≤ kk := by omega
                have q7 : (kk:Int) < n := by omega
                clear hcell hfr hx hy hz
                by_cases hxy : x = y
                · subst hxy
                  go_wp2_with fail
                  go_region
                  all_goals
                    go_wp2_with fail
                    exact ⟨⟨kk, k2 + 1, m, rfl, by go_num, hkk, by omega, by omega, by omega, hml, by first | exact HX.out.1.mod (Mod.refl No _).drew (fun _ _ f => f) | exact HX.out.1, by first | exact HX.out.2.drew | exact HX.out.2⟩, by simp [intOf]; omega⟩
                · have hxy' : ¬ (x : Int) = y := by omega
                  go_wp2_with fail
                  go_region
                  all_goals
                    go_wp2_with fail
                    have hs := HX.out.1.set (i := kk) (by omega) x
                    have hm2 := HX.out.2.setCell (p := ⟨g, kk, none⟩) (.inr rfl) (.int .u32 (x : Int))
                    exact ⟨⟨kk + 1, k2 + 1, m.set kk x, by go_num, by go_num, by omega, by omega, by omega, by omega, by rw [List.length_set]; exact hml, by first | exact hs.mod (Mod.refl No _).drew (fun _ _ f => f) | exact hs, by first | exact hm2.drew | exact hm2⟩, by simp [intOf]; omega⟩
              · have hcl : ∀ ty, (Builtin.clear_ #[26] ty #[.slice (some ⟨g, kk, none⟩) (n - kk) (cap - kk)]).run Tryd.prog wr = .ok (.tuple #[]) (wr.setCells g kk (List.replicate (n - kk) (.int .u32 0))) :=
                  fun ty => Lib.run_clear_slice wr _ _ ty _ Tryd.underlying26 zeroN rfl rfl g kk _ _ (by omega) (fun j hj => by rw [hcell (kk + j) _ (At_get (by omega))]; rfl) (fun j hj => hfr (kk + j))
                have hmod := Mod.setCells (F := fun b => b = g) (b := g) (.inr rfl) (List.replicate (n - kk) (.int .u32 0)) kk HX.out.2
                have HM := Lib.hid hmod
                have p5 : ¬ (k2 : Int) < (n - k : Nat) := by omega
                clear hmod hcell hfr
                go_wp2
                rw [H.out.2.2]
                exact ⟨kk, rfl, HM.out, by omega, ⟨fun e => by omega, fun hA => absurd (HN.out.1.symm.trans HN.out.2) (hA k (by omega) (by omega))⟩⟩
        · have hab' : ¬ (a : Int) = b := by omega
          go_wp2_with fail
          go_region
          all_goals
            go_wp2_with fail
            refine ⟨⟨k + 1, by go_num, by omega, by omega, ?_, by first | exact HR.out.2.1.drew | exact HR.out.2.1⟩, by simp [intOf]; omega⟩
            intro j h0 h1
            by_cases hj : j = k
            · subst hj
              rw [← HN.out.1, ← HN.out.2]
              exact hab
            · exact HR.out.1 j h0 (by omega)
      · have t1 : ¬ (k : Int) < n := by omega
        have hkn' : k = n := by omega
        subst hkn'
        clear ho
        go_wp2
        rw [H.out.2.2]
        exact ⟨k, rfl, HR.out.2.1.mono (fun _ f => f.elim), Nat.le_refl _, ⟨fun _ => HR.out.1, fun _ => rfl⟩⟩

end Go.Proofs.YtfpfpeachmcfeaaDoor
