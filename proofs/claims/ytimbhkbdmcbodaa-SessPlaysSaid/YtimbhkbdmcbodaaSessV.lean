/-
  A list of sessions of one's own: their cells; append of one; a literal of one.
-/
import Derived.Test.YtimbhkbdmcbodaaSessP
import Derived.Test.YtimbhkbdmcbodaaOwnG
import Derived.Deep.RegionLaw
import Derived.Great.BuildSlice
namespace Go.Proofs.Ytimbhkbdmcbodaa
open Go.RowKit Go.MapKept Go.ChangeMaps
set_option linter.unusedVariables false
set_option linter.unusedSimpArgs false

/-! ### a list of sessions of one's own -/
structure SV where
  s : Sess
  A : Option Addr
  c : Nat
def SV.cells (x : SV) : List Value := [.int .u8 x.s.key.proto, .int .u32 x.s.key.pt.ip, .int .u16 x.s.key.pt.port, .int .u32 x.s.out.ip, .int .u16 x.s.out.port, .int .u32 x.s.gen, .slice x.A x.s.peers.length x.c, .int .i64 x.s.state, .int .u32 x.s.til]
theorem SV.val (x : SV) : x.s.val x.A x.c = .agg x.cells.toArray := rfl
theorem OwnP.keep {base : Nat} {w w' : World} {A : Option Addr} {c : Nat} {l : List Point} (h : OwnP base w A c l) (hk : ∀ b o, (Value.slice A l.length c).ownBlock = some b → w.heap[b]? = some o → w'.heap[b]? = some o) : OwnP base w' A c l := by
  refine ⟨h.1, ?_⟩
  rcases h.2 with hn | ⟨g, cap, cur, e, hg, hb, rest⟩
  · exact .inl hn
  · exact .inr ⟨g, cap, cur, e, hg, hk g _ (by rw [e]; rfl) hb, rest⟩
def shSess : Shp SV where
  cells := SV.cells
  R := fun S w x => OwnP 0 w x.A x.c x.s.peers ∧ ∀ b, (Value.slice x.A x.s.peers.length x.c).ownBlock = some b → S b
  size := 9
  len := fun _ => rfl
  pos := by decide
  keep := fun h k => ⟨OwnP.keep h.1 (fun b o hb ho => k b o (h.2 b hb) ho), h.2⟩
  lt := fun h k => ⟨h.1, fun b hb => k b (h.1.lt b hb).2 (h.2 b hb)⟩
  one := fun {S w x} _ u hu => by
    simp only [SV.cells, List.mem_cons, List.not_mem_nil, or_false] at hu
    rcases hu with rfl | rfl | rfl | rfl | rfl | rfl | rfl | rfl | rfl <;> rfl
def zSess : Array Value := #[.int .u8 0, .int .u32 0, .int .u16 0, .int .u32 0, .int .u16 0, .int .u32 0, .slice none 0 0, .int .i64 0, .int .u32 0]
theorem infoSess : (Try.prog.info? 35).map (fun i => (i.zero, i.size, i.bytes)) = some (some (.agg zSess), 9, 64) := by kernel_rfl
theorem push_sess {w : World} {base : Nat} {v : Value} {l : List SV} (h : OL shSess 35 w base v l) {x : SV} (hx : shSess.R (fun b => base ≤ b ∧ v.ownBlock ≠ some b) w x) (ty : TypeId) (hl : l.length ≤ 1000000) (hbase : base ≤ w.heap.size) :
    ∃ v' w', (Builtin.append_ #[39, 39] ty #[v, .slice (some ⟨w.heap.size, 0, none⟩) 1 1]).run Try.prog (w.alloc (.cells x.cells.toArray 35)) = .ok v' w' ∧ OL shSess 35 w' base v' (l ++ [x]) ∧ Mod (fun b => v.ownBlock = some b) w w' := by
  obtain ⟨i0, hi, hz0, hz1, hz2⟩ := info_parts infoSess
  exact h.push (H := shSess) (x := x) hx ty i0 _ 64 Try.underlying39 hi hz0 hz1 hz2 (by rfl) (by unfold maxLen; omega) (by omega) hbase
def ssSlice (v : Value) : Sem Value := Instr.buildSlice 39 1 #[(0, v)]
theorem ss_slice_fold (ρ : Operand → Value) (x : Operand) (dst : Option Tmp) (ty : TypeId) (pos : String) (after : Array Edge) (g : Option (Nat × Bool)) :
    execOp ρ { dst := dst, op := .buildSlice 39 1 #[(0, x)], type := ty, pos := pos, after := after, guard := g } = (do pure (Next.value (← ssSlice (ρ x))) : Sem Next) := by
  show (do pure (Next.value (← Instr.buildSlice 39 1 (#[(0, x)].map fun (i, x) => (i, ρ x)))) : Sem Next) = _
  have hm : (#[((0 : Nat), x)].map fun (i, x) => (i, ρ x)) = #[(0, ρ x)] := by simp
  rw [hm]
  rfl
theorem ssSlice_run (x : SV) (W : World) : (ssSlice (.agg x.cells.toArray)).run Try.prog W = .ok (.slice (some ⟨W.heap.size, 0, none⟩) 1 1) (W.alloc (.cells x.cells.toArray 35)) := by
  have hi := infoSess
  cases hie : Try.prog.info? 35 with
  | none => rw [hie] at hi; simp at hi
  | some ie =>
    rw [hie] at hi
    simp only [Option.map_some, Option.some.injEq, Prod.mk.injEq] at hi
    refine Go.run_buildSlice W _ 35 1 _ x.cells.toArray ie _ Try.underlying39 hie hi.1 (by rw [hi.2.1]; decide) (by rw [hi.2.1]; decide) ?_
    rw [hi.2.1]
    kernel_rfl


end Go.Proofs.Ytimbhkbdmcbodaa
