/-
  Package cfg: the loop over the tenant's nineteen closures, whatever they do; the settings' eight.
-/
import Derived.Test.YtcnemhhbihhcfaaCfgQ
namespace Go.Proofs.Ytcnemhhbihhcfaa
open Go.RowKit
set_option linter.unusedVariables false

/-- The closures' numbers, and what they have caught. -/
def tenFn : List Nat := [51, 52, 53, 55, 56, 57, 58, 60, 61, 63, 64, 65, 66, 67, 69, 70, 71, 74, 76]
def bxv (n : Nat) : Value := .pointer (some ⟨n, 0, none⟩)
def tenCap (n : Nat) : List (Array Value) :=
  List.replicate 13 #[bxv n, bxv (n + 1)] ++ [#[bxv n, bxv (n + 1), bxv (n + 2)], #[bxv n, bxv (n + 1), bxv (n + 3)], #[bxv n, bxv (n + 1), bxv (n + 4)], #[bxv n, bxv (n + 2), bxv (n + 1)], #[bxv n, bxv (n + 3), bxv (n + 1), bxv (n + 5)], #[bxv n, bxv (n + 4), bxv (n + 1), bxv (n + 5)]]
def tenRow (n : Nat) : List Value := (tenFn.zip (tenCap n)).map fun x => .func (.func x.1) #[] x.2
theorem ten_enters : ∀ f ∈ tenFn, ∀ (a : Array Value) (W : World), (callFunc f a).run Try.prog W = .ok (.enter f a) W := by
  intro f hf a W
  simp only [tenFn, List.mem_cons, List.mem_nil_iff, or_false] at hf
  rcases hf with rfl | rfl | rfl | rfl | rfl | rfl | rfl | rfl | rfl | rfl | rfl | rfl | rfl | rfl | rfl | rfl | rfl | rfl | rfl <;> go_simp

/-- The walk's world under a name. -/
theorem grab_world {P : Program} {c : Code} {Q : Exit → Act → World → Prop} {a : Act} {W : World} (h : ∀ w0, w0 = W → Code.wp P c Q a w0) : Code.wp P c Q a W := h _ rfl
theorem at_eq (w : World) (a : Obj) {i : Nat} (h : i = w.heap.size) : (w.alloc a).heap[i]? = some a := by subst h; exact at10 w a
@[go_sem] theorem run_store_func {P : Program} {w : World} {a : Addr} {m : Mode} (f : Fn) (ts cs : Array Value) : (store a (.func f ts cs) m).run P w = stored P w a (.func f ts cs) m := run_store P w a _ m rfl

set_option maxRecDepth 100000 in
theorem tenant_walk {w : World} {C T o : Nat} (R : World → Prop)
    (H : ∀ w0, Mod No w w0 → Boxes w0 w.heap.size (w.heap.size + 1) C T o → w0.heap[w.heap.size + 2]? = some (.cells #[.int .i64 0] 3 (0, 0)) → w0.heap[w.heap.size + 3]? = some (.cells #[.int .i64 0] 3 (0, 0)) → w0.heap[w.heap.size + 4]? = some (.cells #[.int .i64 0] 3 (0, 0)) →
      w0.heap[w.heap.size + 5]? = some (.cells #[.func (.func 49) #[] #[bxv w.heap.size]] 97 (0, 0)) → w0.heap[w.heap.size + 6]? = some (.cells (tenRow w.heap.size).toArray 1 (0, 0)) →
      ∃ Inv : Nat → World → Prop, Inv 0 w0 ∧ (∀ k w1 f c, tenFn[k]? = some f → (tenCap w.heap.size)[k]? = some c → Inv k w1 → w1.heap[w.heap.size + 6]? = some (.cells (tenRow w.heap.size).toArray 1 (0, 0)) ∧ Calls Try.prog f c w1 fun e w' => e = .returned (.tuple #[]) ∧ Inv (k + 1) w') ∧ ∀ w', Inv 19 w' → R w') :
    Calls Try.prog 35 #[.pointer (some ⟨C, 0, none⟩), .pointer (some ⟨T, o, none⟩)] w fun e w' => e = .returned (.tuple #[]) ∧ R w' := by
  have HH := Lib.hid H
  clear H
  go_enter Try.func35, Try.ntmps35
  go_wp2
  refine grab_world fun w0 hw0 => ?_
  have hm0 : Mod No w w0 := by rw [hw0]; repeat (first | with_reducible exact Mod.refl _ _ | refine Mod.alloc ?_ _ | refine Mod.setCell ?_ (.inl (by simp; omega)) _)
  have k0 : w0.heap[w.heap.size]? = some (.cells #[.pointer (some ⟨C, 0, none⟩)] 71 (0, 0)) := by rw [hw0]; (repeat (first | (refine at_eq _ _ ?_; simp; done) | (refine (Below.heap_alloc _ _ _ ?_).trans ?_; (simp; try omega))))
  have k1 : w0.heap[w.heap.size + 1]? = some (.cells #[.pointer (some ⟨T, o, none⟩)] 75 (0, 0)) := by rw [hw0]; (repeat (first | (refine at_eq _ _ ?_; simp; done) | (refine (Below.heap_alloc _ _ _ ?_).trans ?_; (simp; try omega))))
  have k2 : w0.heap[w.heap.size + 2]? = some (.cells #[.int .i64 0] 3 (0, 0)) := by rw [hw0]; (repeat (first | (refine at_eq _ _ ?_; simp; done) | (refine (Below.heap_alloc _ _ _ ?_).trans ?_; (simp; try omega))))
  have k3 : w0.heap[w.heap.size + 3]? = some (.cells #[.int .i64 0] 3 (0, 0)) := by rw [hw0]; (repeat (first | (refine at_eq _ _ ?_; simp; done) | (refine (Below.heap_alloc _ _ _ ?_).trans ?_; (simp; try omega))))
  have k4 : w0.heap[w.heap.size + 4]? = some (.cells #[.int .i64 0] 3 (0, 0)) := by rw [hw0]; (repeat (first | (refine at_eq _ _ ?_; simp; done) | (refine (Below.heap_alloc _ _ _ ?_).trans ?_; (simp; try omega))))
  have k5 : w0.heap[w.heap.size + 5]? = some (.cells #[.func (.func 49) #[] #[bxv w.heap.size]] 97 (0, 0)) := by rw [hw0]; (repeat (first | (refine at_eq _ _ ?_; simp; done) | (refine (Below.heap_alloc _ _ _ ?_).trans ?_; (simp; try omega))))
  have k6 : w0.heap[w.heap.size + 6]? = some (.cells (tenRow w.heap.size).toArray 1 (0, 0)) := by rw [hw0]; refine (at_eq _ _ (by simp)).trans ?_; simp [tenRow, tenFn, tenCap, bxv, List.replicate]
  obtain ⟨Inv, h0, hstep, hend⟩ := HH.out w0 hm0 ⟨k0, k1⟩ k2 k3 k4 k5 k6
  have HI := Lib.hid (And.intro h0 (And.intro hstep hend))
  clear HH h0 hstep hend k0 k1 k2 k3 k4 k5 k6 hm0 hw0
  go_loopw [34] (fun i wr => ∃ k : Nat, i = .int .i64 k ∧ k ≤ 19 ∧ Inv k wr) (fun i _ => 19 - (intOf i).toNat)
  case atStart => exact ⟨0, rfl, by omega, HI.out.1⟩
  case round =>
    obtain ⟨k, rfl, hk, hinv⟩ := hrel
    have HV := Lib.hid hinv
    clear hinv
    by_cases hlt : k < 19
    · obtain ⟨f, hf⟩ : ∃ f, tenFn[k]? = some f := ⟨_, List.getElem?_eq_getElem hlt⟩
      obtain ⟨c, hc⟩ : ∃ c, (tenCap w.heap.size)[k]? = some c := ⟨_, List.getElem?_eq_getElem hlt⟩
      obtain ⟨hrow, hcall⟩ := HI.out.2.1 k _ f c hf hc HV.out
      have hcell : wr.cell? ⟨w.heap.size + 1 + 1 + 1 + 1 + 1 + 1, k, none⟩ = some (.func (.func f) #[] c) := by
        rw [show w.heap.size + 1 + 1 + 1 + 1 + 1 + 1 = w.heap.size + 6 from rfl, blk_cell hrow]
        simp [tenRow, (List.getElem?_zip_eq_some (z := (f, c))).2 ⟨hf, hc⟩]
      have hen := ten_enters f (List.mem_of_getElem? hf)
      have p1 : (0:Int) ≤ k := by omega
      have p2 : (k:Int) < 19 := by omega
      have HC := Lib.hid hcall
      clear hrow hcall hf hc
      go_wp2_with fail
      refine HC.out.mono ?_
      rintro e w2 ⟨rfl, hi⟩
      have HV2 := Lib.hid hi
      clear hi
      go_wp2
      exact ⟨⟨k + 1, by go_num, by omega, HV2.out⟩, by simp [intOf]; omega⟩
    · have hk' : k = 19 := by omega
      subst hk'
      go_wp2
      go_end0
      exact ⟨rfl, HI.out.2.2 _ HV.out⟩

end Go.Proofs.Ytcnemhhbihhcfaa
