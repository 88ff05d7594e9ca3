/-
  Package wheel, third part: New.
-/
import Derived.Test.YtlbdpofgcipjjaaWhB
namespace Go.Proofs.Ytlbdpofgcipjjaa
open Go.RowKit Go.MapKept Go.ChangeMaps
set_option linter.unusedVariables false

structure WNew (n now k : Nat) (w0 w : World) : Prop where
  row : ∃ C : Array Value, w.heap[n + 1]? = some (.cells C 54 (0, 0)) ∧ C.size = 66 ∧ C[0]? = some (.int .u32 now) ∧ (∀ j, j < k → C[1 + j]? = some (.map (some (n + 2 + j)))) ∧ C[65]? = some (.map (some n))
  maps : ∀ j, j < k → GMap Try.prog 3 w (n + 2 + j) []
  inm : GMap Try.prog 3 w n []
  size : w.heap.size = n + 2 + k
  mod : Mod No w0 w
theorem WNew.step {n now k : Nat} {w0 w : World} (h : WNew n now k w0 w) (hn : n = w0.heap.size) (hk : k < 64) : WNew n now (k + 1) w0 ((w.alloc (.map #[] 0)).setCell ⟨n + 1, 1 + k, none⟩ (.map (some (n + 2 + k)))) := by
  have m1 : Mod No w (w.alloc (.map #[] 0)) := (Mod.refl _ _).alloc _
  have m2 : Mod (fun j => j = n + 1) (w.alloc (.map #[] 0)) ((w.alloc (.map #[] 0)).setCell ⟨n + 1, 1 + k, none⟩ (.map (some (n + 2 + k)))) := Mod.setCell (F := fun j => j = n + 1) (Mod.refl _ _) (p := ⟨n + 1, 1 + k, none⟩) (.inr rfl) _
  obtain ⟨C, hb, hs, h0, h1, h2⟩ := h.row
  have hb1 := m1.obj hb id
  have hz := h.size
  have hnew : GMap Try.prog 3 (w.alloc (.map #[] 0)) (n + 2 + k) [] := by
    rw [← hz]; exact GMap.new _ _ _
  refine ⟨⟨C.set! (1 + k) (.map (some (n + 2 + k))), ?_, by simp [hs], ?_, ?_, ?_⟩, ?_, ?_, ?_, ?_⟩
  · have hlt := lt_of_block hb1
    simp only [World.setCell, Array.set!_eq_setIfInBounds]
    rw [Array.getElem?_modify, if_pos rfl, hb1]
    rfl
  · simp [Array.set!_eq_setIfInBounds, Array.getElem?_setIfInBounds, h0]
  · intro j hj
    rw [Array.set!_eq_setIfInBounds, Array.getElem?_setIfInBounds]
    by_cases hjk : j = k
    · subst hjk
      simp [hs]; omega
    · rw [if_neg (by omega)]
      exact h1 j (by omega)
  · rw [Array.set!_eq_setIfInBounds, Array.getElem?_setIfInBounds, if_neg (by omega)]
    exact h2
  · intro j hj
    by_cases hjk : j = k
    · subst hjk
      exact hnew.mod m2 (by omega)
    · exact ((h.maps j (by omega)).mod m1 id).mod m2 (by omega)
  · exact (h.inm.mod m1 id).mod m2 (by omega)
  · have e : ((w.alloc (.map #[] 0)).setCell ⟨n + 1, 1 + k, none⟩ (.map (some (n + 2 + k)))).heap.size = (w.heap.push (.map #[] 0)).size := by simp only [World.setCell, Array.size_modify]; rfl
    rw [e, Array.size_push, hz]
    omega
  · exact h.mod.trans' (F := No) (G := fun j => j = n + 1) (m1.mono (fun _ f => f.elim) |>.trans m2) (fun i hi hg => by omega)
theorem zeroWheel (w : World) : (zeroValue 54).run Try.prog w = .ok (.agg #[.int .u32 0, .map none, .map none, .map none, .map none, .map none, .map none, .map none, .map none, .map none, .map none, .map none, .map none, .map none, .map none, .map none, .map none, .map none, .map none, .map none, .map none, .map none, .map none, .map none, .map none, .map none, .map none, .map none, .map none, .map none, .map none, .map none, .map none, .map none, .map none, .map none, .map none, .map none, .map none, .map none, .map none, .map none, .map none, .map none, .map none, .map none, .map none, .map none, .map none, .map none, .map none, .map none, .map none, .map none, .map none, .map none, .map none, .map none, .map none, .map none, .map none, .map none, .map none, .map none, .map none, .map none]) w := by kernel_rfl
theorem new_ok {w : World} {now : Nat} : Calls Try.prog 8 #[.int .u32 now] w fun e w' => e = .returned (.pointer (some ⟨w.heap.size + 1, 0, none⟩)) ∧ Whl w' (w.heap.size + 1) (fun j => w.heap.size + 2 + j) w.heap.size now [] ∧ Mod No w w' ∧ w'.heap.size = w.heap.size + 66 := by
  obtain ⟨n, hn⟩ : ∃ n, n = w.heap.size := ⟨_, rfl⟩
  have hmk := @run_makeMap Try.prog
  have hzw := zeroWheel
  go_enter Try.func8, Try.ntmps8
  go_wp2
  go_loopw [9] (fun i wr => ∃ k : Nat, i = .int .i64 k ∧ k ≤ 64 ∧ WNew n now k w wr) (fun i _ => 64 - (intOf i).toNat)
  case atStart =>
    subst hn
    have m1 : Mod No w (w.alloc (.map #[] 0)) := (Mod.refl _ _).alloc _
    have hz : (w.alloc (.map #[] 0)).heap.size = w.heap.size + 1 := by show (w.heap.push _).size = _; simp
    refine ⟨0, rfl, by omega, ?_⟩
    constructor
    · refine ⟨#[.int .u32 now, .map none, .map none, .map none, .map none, .map none, .map none, .map none, .map none, .map none, .map none, .map none, .map none, .map none, .map none, .map none, .map none, .map none, .map none, .map none, .map none, .map none, .map none, .map none, .map none, .map none, .map none, .map none, .map none, .map none, .map none, .map none, .map none, .map none, .map none, .map none, .map none, .map none, .map none, .map none, .map none, .map none, .map none, .map none, .map none, .map none, .map none, .map none, .map none, .map none, .map none, .map none, .map none, .map none, .map none, .map none, .map none, .map none, .map none, .map none, .map none, .map none, .map none, .map none, .map none, .map (some w.heap.size)], ?_, rfl, rfl, fun j hj => absurd hj (by omega), rfl⟩
      rw [← hz]
      exact at10 (w.alloc (.map #[] 0)) _
    · exact fun j hj => absurd hj (by omega)
    · exact (GMap.new Try.prog 3 w).mod ((Mod.refl No _).alloc _) id
    · show ((w.alloc (.map #[] 0)).heap.push _).size = _
      rw [Array.size_push, hz]
    · exact m1.alloc _
  case round =>
    obtain ⟨k, rfl, hk, hN⟩ := hrel
    subst hn
    clear hzw
    by_cases hlt : k < 64
    · obtain ⟨C, hb, hs, h0, h1, h2⟩ := hN.row
      have hz := hN.size
      obtain ⟨v0, hv0⟩ : ∃ v0, C[1 + k]? = some v0 := ⟨_, Array.getElem?_eq_getElem (by omega)⟩
      have hc : wr.cell? ⟨w.heap.size + 1, 1 + k, none⟩ = some v0 := (blk_cell hb (1 + k)).trans hv0
      have hb1 := ((Mod.refl No wr).alloc (.map #[] 0)).obj hb id
      have hc1 : (wr.alloc (.map #[] 0)).cell? ⟨w.heap.size + 1, 1 + k, none⟩ = some v0 := (blk_cell hb1 (1 + k)).trans hv0
      have hf1 : (wr.alloc (.map #[] 0)).frozen? ⟨w.heap.size + 1, 1 + k, none⟩ = false := blk_free hb1 (1 + k)
      have hf : wr.frozen? ⟨w.heap.size + 1, 1 + k, none⟩ = false := blk_free hb (1 + k)
      have hl := lt_of_block hb
      have HS := Lib.hid (hN.step rfl hlt)
      clear hb1 hb hs h0 h1 h2 hv0
      go_wp2
      exact ⟨⟨k + 1, by go_num, by omega, HS.out⟩, by simp [intOf]; omega⟩
    · have hk' : k = 64 := by omega
      subst hk'
      have HN := Lib.hid hN
      clear hN
      go_wp2
      go_ret
      have hN := HN.out
      exact ⟨rfl, ⟨hN.row, hN.maps, hN.inm, fun j k hj hk e => by omega, fun k hk => ⟨by omega, by omega⟩, by omega⟩, hN.mod, hN.size⟩

end Go.Proofs.Ytlbdpofgcipjjaa
