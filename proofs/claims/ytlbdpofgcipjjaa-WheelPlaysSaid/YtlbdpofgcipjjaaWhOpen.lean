/-
  A step of a script as an argument.
  Conditions: none.
-/
import Derived.Test.YtlbdpofgcipjjaaOpenG
import Derived.Test.YtlbdpofgcipjjaaPost
import Derived.Test.YtlbdpofgcipjjaaWhL
namespace Go.Proofs.Ytlbdpofgcipjjaa
open Go.ChangeShapes Go.WideShapes Go.ChangeAt Go.RowKit Go.Deep
set_option linter.unusedVariables false
variable {H : Type} {enc : TypeId × Value → H} {w : World}

theorem coAct : Try.prog.cellsOf 32 = 4 := by kernel_rfl
theorem open_act {fuel : Nat} {cs : List Value} {x : DataW H × List MemPlace} (h : DataW.trod enc Try.prog w 0 (fun _ => true) true fuel 32 cs = some x) : ∃ a : WAct, cs = a.cells ∧ a.Ok := by
  have hl := struct_len Try.underlying32 h
  rw [coAct] at hl
  obtain ⟨n0, y0, h0⟩ := field_at Try.underlying32 h 0 _ rfl
  obtain ⟨n1, y1, h1⟩ := field_at Try.underlying32 h 1 _ rfl
  obtain ⟨n2, y2, h2⟩ := field_at Try.underlying32 h 2 _ rfl
  obtain ⟨n3, y3, h3⟩ := field_at Try.underlying32 h 3 _ rfl
  obtain ⟨z0, e0, _, w0⟩ := DataW.trod_int Try.underlying3 h0
  obtain ⟨z1, e1, _, w1⟩ := DataW.trod_int Try.underlying3 h1
  obtain ⟨z2, e2, _, w2⟩ := DataW.trod_int Try.underlying22 h2
  obtain ⟨z3, e3, _⟩ := DataW.trod_bool Try.underlying4 h3
  obtain ⟨m2, rfl, b2⟩ := nat_of_wf (by rfl) w2
  have c0 : Try.prog.cellsOf 3 = 1 := by kernel_rfl
  have c2 : Try.prog.cellsOf 22 = 1 := by kernel_rfl
  have c3 : Try.prog.cellsOf 4 = 1 := by kernel_rfl
  have d0 : (cs.drop 0).take 1 = [.int .i64 z0] := by rw [← c0]; exact e0
  have d1 : (cs.drop 1).take 1 = [.int .i64 z1] := by rw [← c0]; exact e1
  have d2 : (cs.drop 2).take 1 = [.int .u32 (m2 : Int)] := by rw [← c2]; exact e2
  have d3 : (cs.drop 3).take 1 = [.bool z3] := by rw [← c3]; exact e3
  refine ⟨⟨z0, z1, m2, z3⟩, ?_, ⟨?_, ?_⟩⟩
  · have e : cs = cs.drop 0 := rfl
    rw [e, cut_at cs 0 1, cut_at cs (0 + 1) 1, cut_at cs (0 + 1 + 1) 1, cut_at cs (0 + 1 + 1 + 1) 1, d0, d1, d2, d3, List.drop_of_length_le (by omega)]
    rfl
  · have : IntKind.i64.min ≤ z1 ∧ z1 ≤ IntKind.i64.max := by simpa [Lit.wf] using w1
    simpa [In64, IntKind.min, IntKind.max, IntKind.signed, IntKind.bits] using this
  · simp [IntKind.max, IntKind.signed, IntKind.bits] at b2
    show m2 < 4294967296
    omega

end Go.Proofs.Ytlbdpofgcipjjaa
