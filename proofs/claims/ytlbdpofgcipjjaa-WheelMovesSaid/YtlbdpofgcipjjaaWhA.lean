/-
  Package wheel, first part: what a wheel holds; Now, Count, At, Drop.
-/
import Derived.Test.YtlbdpofgcipjjaaRows
import Derived.DeepKeys4
import Derived.Deep.LoopGhost
import Derived.Deep.QuietTactic
import Derived.BigQuiet
import Derived.WalkSpells
import Derived.Lib.Hide
import Derived.Outline
import Derived.StillTailTactics
import Derived.Test.YtlbdpofgcipjjaaGIter
import Derived.Test.YtlbdpofgcipjjaaWhSort
namespace Go.Proofs.Ytlbdpofgcipjjaa
open Go.RowKit Go.MapKept
open Go.ChangeMaps (setBlock)
set_option linter.unusedVariables false

def vIn (M : List Ent) : List (Value × Value) := M.map fun e => (Value.int IntKind.i64 e.1, Value.int IntKind.i64 (e.2.1 : Int))
def vSl (k : Nat) (M : List Ent) : List (Value × Value) := (slotE k M).map fun e => (Value.int IntKind.i64 e.1, Value.int IntKind.u32 (e.2.2 : Int))

/-- A wheel at block g, its maps of slots at bs, its map 'in' at bi: its clock, and what was set, in order of setting. -/
structure Whl (w : World) (g : Nat) (bs : Nat → Nat) (bi : Nat) (now : Nat) (M : List Ent) : Prop where
  row : ∃ C : Array Value, w.heap[g]? = some (.cells C 54 (0, 0)) ∧ C.size = 66 ∧ C[0]? = some (.int .u32 now) ∧ (∀ k, k < 64 → C[1 + k]? = some (.map (some (bs k)))) ∧ C[65]? = some (.map (some bi))
  maps : ∀ k, k < 64 → GMap Try.prog 3 w (bs k) (vSl k M)
  inm : GMap Try.prog 3 w bi (vIn M)
  sep : ∀ j k, j < 64 → k < 64 → bs j = bs k → j = k
  ne : ∀ k, k < 64 → bs k ≠ bi ∧ bs k ≠ g
  nei : bi ≠ g
def Own (g : Nat) (bs : Nat → Nat) (bi : Nat) (j : Nat) : Prop := j = g ∨ j = bi ∨ ∃ k, k < 64 ∧ j = bs k
section
variable {w w' : World} {g bi now : Nat} {bs : Nat → Nat} {M : List Ent}

theorem keyedInt : Maps.Keyed Try.prog 3 := Maps.int_keyed Try.underlying3
theorem keyOfInt (x : Int) (hx : -9223372036854775808 ≤ x ∧ x ≤ 9223372036854775807) : keyOf Try.prog 3 (.int .i64 x) = some (Lit.int .i64 x) := by
  simp [keyOf, Try.underlying3, mapKey, Lit.wf, IntKind.min, IntKind.max, IntKind.signed, IntKind.bits, hx]
theorem Whl.c0 (h : Whl w g bs bi now M) : w.cell? ⟨g, 0, none⟩ = some (.int .u32 now) := by
  obtain ⟨C, hb, hs, h0, _⟩ := h.row
  exact (blk_cell hb 0).trans h0
theorem Whl.cs (h : Whl w g bs bi now M) {k : Nat} (hk : k < 64) : w.cell? ⟨g, 1 + k, none⟩ = some (.map (some (bs k))) := by
  obtain ⟨C, hb, hs, h0, h1, _⟩ := h.row
  exact (blk_cell hb (1 + k)).trans (h1 k hk)
theorem Whl.ci (h : Whl w g bs bi now M) : w.cell? ⟨g, 65, none⟩ = some (.map (some bi)) := by
  obtain ⟨C, hb, hs, h0, h1, h2⟩ := h.row
  exact (blk_cell hb 65).trans h2
theorem Whl.mod {F : Nat → Prop} (h : Whl w g bs bi now M) (hm : Mod F w w') (hF : ∀ j, Own g bs bi j → ¬ F j) : Whl w' g bs bi now M := by
  obtain ⟨C, hb, hr⟩ := h.row
  exact ⟨⟨C, hm.obj hb (hF _ (.inl rfl)), hr⟩, fun k hk => (h.maps k hk).mod hm (hF _ (.inr (.inr ⟨k, hk, rfl⟩))), h.inm.mod hm (hF _ (.inr (.inl rfl))), h.sep, h.ne, h.nei⟩
theorem vIn_at {i : Nat} {id : Int} {s a : Nat} (h : M[i]? = some (id, s, a)) : (vIn M)[i]? = some (Value.int IntKind.i64 id, Value.int IntKind.i64 (s : Int)) := by
  simp [vIn, h]
theorem vIn_no {id : Int} (h : ∀ e ∈ M, e.1 ≠ id) : ∀ p ∈ vIn M, p.1 ≠ Value.int IntKind.i64 id := by
  intro p hp f
  obtain ⟨e, he, rfl⟩ := List.mem_map.1 hp
  simp only [Value.int.injEq, true_and] at f
  exact h e he f
theorem vSl_no {id : Int} (h : ∀ e ∈ M, e.1 ≠ id) (k : Nat) : ∀ p ∈ vSl k M, p.1 ≠ Value.int IntKind.i64 id := by
  intro p hp f
  obtain ⟨e, he, rfl⟩ := List.mem_map.1 hp
  simp only [Value.int.injEq, true_and] at f
  exact h e (List.mem_filter.1 he).1 f
theorem Whl.ids (h : Whl w g bs bi now M) : (M.map (·.1)).Nodup := by
  have h1 := h.inm.nodup
  rw [vIn, List.map_map] at h1
  exact List.Pairwise.of_map (S := fun a b : Value => a ≠ b) (R := fun a b : Int => a ≠ b) (fun x : Int => Value.int IntKind.i64 x) (fun a b hab f => hab (by rw [f])) (by rw [List.map_map]; exact h1)

/-! ### Now, Count -/
theorem now_ok (h : Whl w g bs bi now M) : Calls Try.prog 19 #[.pointer (some ⟨g, 0, none⟩)] w fun e w' => e = .returned (.int .u32 now) ∧ w' = w := by
  have c0 := h.c0
  clear h
  go_enter Try.func19, Try.ntmps19
  go_wp2
  go_ret
  exact ⟨rfl, rfl⟩
theorem count_ok (h : Whl w g bs bi now M) : Calls Try.prog 18 #[.pointer (some ⟨g, 0, none⟩)] w fun e w' => e = .returned (.int .i64 M.length) ∧ w' = w := by
  have ci := h.ci
  have hl := fun ty => h.inm.len Try.underlying50 ty
  rw [show (vIn M).length = M.length by simp [vIn]] at hl
  clear h
  go_enter Try.func18, Try.ntmps18
  go_wp2
  go_ret
  exact ⟨rfl, rfl⟩

/-! ### At -/
theorem slot_at (h : Whl w g bs bi now M) {i : Nat} {id : Int} {s a : Nat} (hi : M[i]? = some (id, s, a)) : ∃ j, (vSl s M)[j]? = some (Value.int IntKind.i64 id, Value.int IntKind.u32 (a : Int)) ∧ vSl s (M.eraseIdx i) = (vSl s M).eraseIdx j := by
  obtain ⟨⟨j, hj, he⟩, _⟩ := slotE_erase h.ids hi
  refine ⟨j, ?_, ?_⟩
  · rw [vSl, List.getElem?_map, hj]; rfl
  · rw [vSl, he, vSl, map_eraseIdx]
theorem slot_off (h : Whl w g bs bi now M) {i : Nat} {id : Int} {s a : Nat} (hi : M[i]? = some (id, s, a)) (k : Nat) (hk : k ≠ s) : vSl k (M.eraseIdx i) = vSl k M := by
  rw [vSl, (slotE_erase h.ids hi).2 k hk, vSl]
theorem zeroInt (w : World) : (zeroValue 3).run Try.prog w = .ok (.int .i64 0) w := by kernel_rfl
theorem at_miss (h : Whl w g bs bi now M) {id : Int} (hx : -9223372036854775808 ≤ id ∧ id ≤ 9223372036854775807) (hm : ∀ e ∈ M, e.1 ≠ id) : Calls Try.prog 16 #[.pointer (some ⟨g, 0, none⟩), .int .i64 id] w fun e w' => e = .returned (.tuple #[.int .u32 0, .bool false]) ∧ w' = w := by
  have ci := h.ci
  have hl := h.inm.look_miss keyedInt Try.underlying50 zeroInt (keyOfInt id hx) (vIn_no hm) true
  simp only [if_true] at hl
  clear h hm
  go_enter Try.func16, Try.ntmps16
  go_wp2
  go_ret2
  exact ⟨rfl, rfl⟩
theorem at_hit (h : Whl w g bs bi now M) {i : Nat} {id : Int} {s a : Nat} (hi : M[i]? = some (id, s, a)) (hs : s < 64) : Calls Try.prog 16 #[.pointer (some ⟨g, 0, none⟩), .int .i64 id] w fun e w' => e = .returned (.tuple #[.int .u32 a, .bool true]) ∧ w' = w := by
  have ci := h.ci
  have cs := h.cs hs
  have hl := h.inm.look_hit keyedInt Try.underlying50 (vIn_at hi) true
  obtain ⟨j, hj, _⟩ := slot_at h hi
  have hl2 := (h.maps s hs).look_hit keyedInt Try.underlying51 hj false
  simp only [if_true] at hl
  simp only [Bool.false_eq_true, if_false] at hl2
  clear h hi hj
  go_enter Try.func16, Try.ntmps16
  go_wp2
  go_ret2
  exact ⟨rfl, rfl⟩

/-! ### Drop -/
theorem drop_miss (h : Whl w g bs bi now M) {id : Int} (hx : -9223372036854775808 ≤ id ∧ id ≤ 9223372036854775807) (hm : ∀ e ∈ M, e.1 ≠ id) : Calls Try.prog 11 #[.pointer (some ⟨g, 0, none⟩), .int .i64 id] w fun e w' => e = .returned (.bool false) ∧ w' = w := by
  have ci := h.ci
  have hl := h.inm.look_miss keyedInt Try.underlying50 zeroInt (keyOfInt id hx) (vIn_no hm) true
  simp only [if_true] at hl
  clear h hm
  go_enter Try.func11, Try.ntmps11
  go_wp2
  go_ret
  exact ⟨rfl, rfl⟩
theorem drop_hit (h : Whl w g bs bi now M) {i : Nat} {id : Int} {s a : Nat} (hi : M[i]? = some (id, s, a)) (hs : s < 64) : Calls Try.prog 11 #[.pointer (some ⟨g, 0, none⟩), .int .i64 id] w fun e w' => e = .returned (.bool true) ∧ Whl w' g bs bi now (M.eraseIdx i) ∧ Mod (Own g bs bi) w w' ∧ w'.heap.size = w.heap.size := by
  have ci := h.ci
  have cs := h.cs hs
  have hl := h.inm.look_hit keyedInt Try.underlying50 (vIn_at hi) true
  obtain ⟨j, hj, hje⟩ := slot_at h hi
  obtain ⟨w1, hd1, hg1, hm1, hz1⟩ := (h.maps s hs).del_hit keyedInt Try.underlying51 hj
  have hne := h.ne s hs
  have hin := h.inm.mod hm1 (fun f => hne.1 f.symm)
  obtain ⟨w2, hd2, hg2, hm2, hz2⟩ := hin.del_hit keyedInt Try.underlying50 (vIn_at hi)
  have ci1 : w1.cell? ⟨g, 65, none⟩ = some (.map (some bi)) := hm1.cell ci (fun f => hne.2 f.symm)
  simp only [if_true] at hl
  have hW : Whl w2 g bs bi now (M.eraseIdx i) ∧ Mod (Own g bs bi) w w2 ∧ w2.heap.size = w.heap.size := by
    obtain ⟨C, hb, hr⟩ := h.row
    have hmm : Mod (Own g bs bi) w w2 := (hm1.mono (fun x hx => .inr (.inr ⟨s, hs, hx⟩))).trans (hm2.mono (fun x hx => .inr (.inl hx)))
    refine ⟨⟨⟨C, hm2.obj (hm1.obj hb (fun f => hne.2 f.symm)) (fun f => h.nei f.symm), hr⟩, fun k hk => ?_, ?_, h.sep, h.ne, h.nei⟩, hmm, hz2.trans hz1⟩
    · by_cases hks : k = s
      · subst hks
        rw [hje]
        exact hg1.mod hm2 hne.1
      · rw [slot_off h hi k hks]
        exact ((h.maps k hk).mod hm1 (fun f => hks (h.sep _ _ hk hs f))).mod hm2 (h.ne k hk).1
    · rw [vIn, map_eraseIdx]
      exact hg2
  have HW := Lib.hid hW
  clear h hi hj hje hg1 hm1 hz1 hne hin hg2 hm2 hz2 hW
  go_enter Try.func11, Try.ntmps11
  go_wp2
  go_ret
  exact ⟨rfl, HW.out⟩
end

end Go.Proofs.Ytlbdpofgcipjjaa
