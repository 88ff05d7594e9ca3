/-
  A session's whole operations under names of their own. Printed by genss.py.
-/
import Derived.Test.YtimbhkbdmcbodaaSessV
import Derived.Deep.MidRow
import Derived.Deep.WholeRow
import Derived.Laws.Rows
import Derived.Laws.CopyRow
namespace Go.Proofs.Ytimbhkbdmcbodaa
open Go.RowKit
set_option linter.unusedVariables false
set_option linter.unusedSimpArgs false

def zSsL : List Value := [.int .u8 0, .int .u32 0, .int .u16 0, .int .u32 0, .int .u16 0, .int .u32 0, .slice none 0 0, .int .i64 0, .int .u32 0]
theorem setRow_alloc (W : World) (old CA : Array Value) {t : TypeId} : (W.alloc (.cells old t)).setRow W.heap.size CA = W.alloc (.cells CA t) := by
  simp only [World.setRow, World.alloc]
  congr 1
  apply Array.ext_getElem?
  intro i
  rw [Array.getElem?_modify, Array.getElem?_push, Array.getElem?_push]
  by_cases h : W.heap.size = i
  · subst h; simp
  · rw [if_neg h, if_neg (fun e => h e.symm), if_neg (fun e => h e.symm)]
theorem Mod.setRow {F : Nat → Prop} {a w : World} (h : Mod F a w) {b : Nat} (hp : a.heap.size ≤ b ∨ F b) (cs : Array Value) : Mod F a (w.setRow b cs) :=
  h.trans' (G := fun x => x = b) ⟨rfl, rfl, rfl, by simp [World.setRow], fun k hk hf => by
    have h' : ¬ b = k := fun e => hf e.symm
    simp [World.setRow, Array.getElem?_modify, h']⟩ (fun i hi hg => by subst hg; rcases hp with hp | hp; omega; exact hp)
theorem results_cell_tmp {P : Program} {fn : Func} {p q : Tmp} {ty : TypeId} (h : fn.results = #[.cell p ty, .tmp q]) (tmps : Array Value) (w : World) (g : Nat) (t : TypeId) (cs : Array Value) (fr : Nat × Nat) (d : TypeDesc)
    (hp : tmps.getD p undef = .pointer (some ⟨g, 0, none⟩)) (hg : w.heap[g]? = some (.cells cs t fr))
    (hu : P.underlying ty = some d) (hd : (match d with | .struct _ | .array _ _ => true | _ => false) = true) (hi : (P.info? ty).map (·.size) = some cs.size) :
    (results fn tmps).run P w = .ok (.tuple #[.agg cs, tmps.getD q undef]) w := by
  have hp' : tmps[p]?.getD undef = .pointer (some ⟨g, 0, none⟩) := by simpa using hp
  simp [results, h, hp', asAddr, run_loadVar_row w g t ty cs fr d hg hu hd hi]
set_option maxRecDepth 100000 in
theorem ssBox_raw (CA : Array Value) (h : CA.size = 9) (W : World) : (Instr.box 35 (.agg CA)).run Try.prog W = .ok (.pointer (some ⟨W.heap.size, 0, none⟩)) (W.alloc (.cells CA 35)) := by
  go_simp
def ssLoad (v : Value) : Sem Value := Instr.loadAt 35 v
theorem ssLoad_fold (v : Value) : Instr.loadAt 35 v = ssLoad v := rfl
def ssStore (p v : Value) : Sem Unit := Instr.storeAt 35 p v
theorem ssStore_fold (p v : Value) : Instr.storeAt 35 p v = ssStore p v := rfl
def ssAlloc (v : Value) : Sem Value := Instr.alloc 35 true v
theorem ssAlloc_fold (v : Value) : Instr.alloc 35 true v = ssAlloc v := rfl
def ssBox (v : Value) : Sem Value := Instr.box 35 v
theorem ssBox_fold (v : Value) : Instr.box 35 v = ssBox v := rfl
def ssZero : Sem Value := Instr.build 35 #[]
theorem ssZero_fold (ρ : Operand → Value) (dst : Option Tmp) (ty : TypeId) (pos : String) (after : Array Edge) (g : Option (Nat × Bool)) :
    execOp ρ { dst := dst, op := .build 35 #[], type := ty, pos := pos, after := after, guard := g } = (do pure (Next.value (← ssZero)) : Sem Next) := by
  show (do pure (Next.value (← Instr.build 35 (#[].map fun (i, x) => (i, ρ x)))) : Sem Next) = _
  simp only [Array.map_empty]
  rfl
theorem ssSize : (Try.prog.info? 35).map (·.size) = some 9 := by kernel_rfl
set_option maxRecDepth 100000 in
theorem ssAlloc_run (W : World) : (ssAlloc (.tuple #[])).run Try.prog W = .ok (.pointer (some ⟨W.heap.size, 0, none⟩)) (W.alloc (.cells zSsL.toArray 35)) := by kernel_rfl
set_option maxRecDepth 100000 in
theorem ssZero_run (W : World) : ssZero.run Try.prog W = .ok (.agg zSsL.toArray) W := by kernel_rfl
theorem ssBox_run (CA : Array Value) (h : CA.size = 9) (W : World) : (ssBox (.agg CA)).run Try.prog W = .ok (.pointer (some ⟨W.heap.size, 0, none⟩)) (W.alloc (.cells CA 35)) := ssBox_raw CA h W
theorem ssLoad_run {W : World} {b : Nat} {CA : Array Value} (h : W.heap[b]? = some (.cells CA 35 (0, 0))) (hc : CA.size = 9) : (ssLoad (.pointer (some ⟨b, 0, none⟩))).run Try.prog W = .ok (.agg CA) W := by
  simp only [ssLoad, Instr.loadAt, Instr.sureAddr, Sem.run_bind, Sem.run_pure, Result.andThen_ok]
  exact run_loadVar_row W b _ _ CA (0, 0) _ h Try.underlying35 rfl (by rw [ssSize, hc])
theorem ssStore_run {W : World} {b : Nat} {old CA : Array Value} (h : W.heap[b]? = some (.cells old 35 (0, 0))) (ho : old.size = 9) (hc : CA.size = 9) (h1 : CA.all (·.oneCell') = true) :
    (ssStore (.pointer (some ⟨b, 0, none⟩)) (.agg CA)).run Try.prog W = .ok () (W.setRow b CA) := by
  simp only [ssStore, Instr.storeAt, Instr.sureAddr, Sem.run_bind, Sem.run_pure, Result.andThen_ok]
  exact run_storeVar_row W b _ _ old CA h (by rw [ssSize, hc]) (by rw [ho, hc]) h1
theorem ssBox_new (CA : Array Value) (h : CA.size = 9) : ∀ W : World, (ssBox (.agg CA)).run Try.prog W = .ok (.pointer (some ⟨W.heap.size, 0, none⟩)) (W.alloc (.cells CA 35)) := ssBox_run CA h
theorem ssStore_new (W : World) (CA : Array Value) (hc : CA.size = 9) (h1 : CA.all (·.oneCell') = true) : (ssStore (.pointer (some ⟨W.heap.size, 0, none⟩)) (.agg CA)).run Try.prog (W.alloc (.cells zSsL.toArray 35)) = .ok () (W.alloc (.cells CA 35)) := by
  rw [← setRow_alloc W zSsL.toArray CA]
  exact ssStore_run (at10 W _) rfl hc h1
theorem ssStore_newd (W : World) (CA : Array Value) (hc : CA.size = 9) (h1 : CA.all (·.oneCell') = true) : (ssStore (.pointer (some ⟨W.heap.size, 0, none⟩)) (.agg CA)).run Try.prog (W.alloc (.cells zSsL.toArray 35)).drew = .ok () (W.alloc (.cells CA 35)).drew := by
  rw [← setRow_alloc W zSsL.toArray CA]
  exact ssStore_run (W := (W.alloc (.cells zSsL.toArray 35)).drew) (at10 W _) rfl hc h1

theorem SV.one (x : SV) : x.cells.toArray.all (·.oneCell') = true := by
  rw [Array.all_eq_true_iff_forall_mem]
  intro u hu
  simp only [SV.cells, List.mem_toArray, List.mem_cons, List.not_mem_nil, or_false] at hu
  rcases hu with rfl | rfl | rfl | rfl | rfl | rfl | rfl | rfl | rfl <;> rfl
theorem ssLoad_mid (W : World) (b o : Nat) (x : SV) (h : ∀ (j : Nat) (v : Value), x.cells[j]? = some v → W.cell? ⟨b, o + j, none⟩ = some v) : (ssLoad (.pointer (some ⟨b, o, none⟩))).run Try.prog W = .ok (.agg x.cells.toArray) W :=
  run_loadAt_mid W b o _ x.cells _ h Try.underlying35 rfl ssSize

end Go.Proofs.Ytimbhkbdmcbodaa
