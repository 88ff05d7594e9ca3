/-
  Steps of a script of a table's calls as an argument.
  Conditions: none.
-/
import Derived.Test.YtimbhkbdmcbodaaOpenG
import Derived.Test.YtimbhkbdmcbodaaOpenP
import Derived.Test.YtimbhkbdmcbodaaPost
import Derived.Test.YtimbhkbdmcbodaaRtE
namespace Go.Proofs.Ytimbhkbdmcbodaa
open Go.ChangeShapes Go.WideShapes Go.ChangeAt Go.RowKit Go.Deep
set_option linter.unusedVariables false
variable {H : Type} {enc : TypeId × Value → H} {w : World}

theorem oaAct : Try.prog.cellsOf 50 = 13 := by kernel_rfl
theorem oaSess : Try.prog.cellsOf 35 = 9 := by kernel_rfl
theorem oaKey : Try.prog.cellsOf 31 = 3 := by kernel_rfl
theorem oaInt : Try.prog.cellsOf 3 = 1 := by kernel_rfl
theorem oaBool : Try.prog.cellsOf 4 = 1 := by kernel_rfl
theorem oaU8 : Try.prog.cellsOf 5 = 1 := by kernel_rfl
theorem oaPts : Try.prog.cellsOf 22 = 1 := by kernel_rfl
set_option maxRecDepth 100000 in
theorem open_key {fuel : Nat} {cs : List Value} {x : DataW H × List MemPlace} (h : DataW.trod enc Try.prog w 0 (fun _ => true) true fuel 31 cs = some x) : ∃ k : Key, cs = [.int .u8 k.proto, .int .u32 k.pt.ip, .int .u16 k.pt.port] ∧ k.wf := by
  have hl := struct_len Try.underlying31 h
  rw [oaKey] at hl
  obtain ⟨n0, y0, h0⟩ := field_at Try.underlying31 h 0 _ rfl
  obtain ⟨n1, y1, h1⟩ := field_at Try.underlying31 h 1 _ rfl
  obtain ⟨z0, e0, _, w0⟩ := DataW.trod_int Try.underlying5 h0
  obtain ⟨p, e1, wp⟩ := open_point (cs := ((cs.drop 1).take (Try.prog.cellsOf 26)).toArray) h1
  have d0 : (cs.drop 0).take 1 = [.int .u8 z0] := by rw [← oaU8]; exact e0
  have d1 : (cs.drop 1).take 2 = [.int .u32 p.ip, .int .u16 p.port] := by
    rw [← cellsPoint]
    have e2 := Value.agg.inj e1
    simpa using congrArg Array.toList e2
  refine ⟨⟨z0, p⟩, ?_, ⟨w0, wp⟩⟩
  have e : cs = cs.drop 0 := rfl
  rw [e, cut_at cs 0 1, cut_at cs (0 + 1) 2, d0, d1, List.drop_of_length_le (by omega)]
  rfl
/-- A session as it is handed in. -/
structure SV.Good (x : SV) (w : World) : Prop where
  key : x.s.key.wf
  out : x.s.out.wf
  row : RowAt (fun _ => True) w x.A (ptCells x.s.peers)
set_option maxRecDepth 100000 in
theorem open_sess {fuel : Nat} {cs : List Value} {x : DataW H × List MemPlace} (h : DataW.trod enc Try.prog w 0 (fun _ => true) true fuel 35 cs = some x) : ∃ a : SV, cs = a.cells ∧ a.Good w := by
  have hl := struct_len Try.underlying35 h
  rw [oaSess] at hl
  obtain ⟨n0, y0, h0⟩ := field_at Try.underlying35 h 0 _ rfl
  obtain ⟨n1, y1, h1⟩ := field_at Try.underlying35 h 1 _ rfl
  obtain ⟨n2, y2, h2⟩ := field_at Try.underlying35 h 2 _ rfl
  obtain ⟨n3, y3, h3⟩ := field_at Try.underlying35 h 3 _ rfl
  obtain ⟨n4, y4, h4⟩ := field_at Try.underlying35 h 4 _ rfl
  obtain ⟨n5, y5, h5⟩ := field_at Try.underlying35 h 5 _ rfl
  obtain ⟨k, e0, wk⟩ := open_key h0
  obtain ⟨p, e1, wp⟩ := open_point (cs := ((cs.drop 3).take (Try.prog.cellsOf 26)).toArray) h1
  obtain ⟨z2, e2, _, w2⟩ := DataW.trod_int Try.underlying23 h2
  obtain ⟨z4, e4, _, w4⟩ := DataW.trod_int Try.underlying3 h4
  obtain ⟨z5, e5, _, w5⟩ := DataW.trod_int Try.underlying23 h5
  have d0 : (cs.drop 0).take 3 = [.int .u8 k.proto, .int .u32 k.pt.ip, .int .u16 k.pt.port] := by rw [← oaKey]; exact e0
  have d1 : (cs.drop 3).take 2 = [.int .u32 p.ip, .int .u16 p.port] := by
    rw [← cellsPoint]
    have e2 := Value.agg.inj e1
    simpa using congrArg Array.toList e2
  have d2 : (cs.drop 5).take 1 = [.int .u32 z2] := by rw [← cellsU32]; exact e2
  have d4 : (cs.drop 7).take 1 = [.int .i64 z4] := by rw [← oaInt]; exact e4
  have d5 : (cs.drop 8).take 1 = [.int .u32 z5] := by rw [← cellsU32]; exact e5
  have h3' : DataW.trod enc Try.prog w 0 (fun _ => true) true n3 22 ((cs.drop 6).take 1) = some y3 := by rw [← oaPts]; exact h3
  obtain ⟨A, n, c, d3⟩ : ∃ A n c, (cs.drop 6).take 1 = [.slice A n c] := by
    rcases open_slice Try.underlying22 h3' with ⟨hcs, _⟩ | ⟨a, len', cap', m, q, D, Pl, hcs, _⟩
    · exact ⟨_, _, _, hcs⟩
    · exact ⟨_, _, _, hcs⟩
  rw [d3] at h3'
  obtain ⟨l, hln, _, hrow, _⟩ := open_row_points h3'
  subst hln
  refine ⟨⟨⟨k, p, z2, l, z4, z5⟩, A, c⟩, ?_, ⟨wk, wp, hrow⟩⟩
  have e : cs = cs.drop 0 := rfl
  rw [e, cut_at cs 0 3, cut_at cs (0 + 3) 2, cut_at cs (0 + 3 + 2) 1, cut_at cs (0 + 3 + 2 + 1) 1, cut_at cs (0 + 3 + 2 + 1 + 1) 1, cut_at cs (0 + 3 + 2 + 1 + 1 + 1) 1, d0, d1, d2, d3, d4, d5, List.drop_of_length_le (by omega)]
  rfl
set_option maxRecDepth 100000 in
theorem open_ac {fuel : Nat} {cs : List Value} {x : DataW H × List MemPlace} (h : DataW.trod enc Try.prog w 0 (fun _ => true) true fuel 50 cs = some x) : ∃ a : Ac, cs = a.cells ∧ a.x.Good w := by
  have hl := struct_len Try.underlying50 h
  rw [oaAct] at hl
  obtain ⟨n0, y0, h0⟩ := field_at Try.underlying50 h 0 _ rfl
  obtain ⟨n1, y1, h1⟩ := field_at Try.underlying50 h 1 _ rfl
  obtain ⟨n2, y2, h2⟩ := field_at Try.underlying50 h 2 _ rfl
  obtain ⟨n3, y3, h3⟩ := field_at Try.underlying50 h 3 _ rfl
  obtain ⟨n4, y4, h4⟩ := field_at Try.underlying50 h 4 _ rfl
  obtain ⟨z0, e0, _, w0⟩ := DataW.trod_int Try.underlying3 h0
  obtain ⟨a, e1, ga⟩ := open_sess h1
  obtain ⟨z2, e2, _, w2⟩ := DataW.trod_int Try.underlying3 h2
  obtain ⟨z3, e3, _, w3⟩ := DataW.trod_int Try.underlying3 h3
  obtain ⟨z4, e4, _⟩ := DataW.trod_bool Try.underlying4 h4
  have d0 : (cs.drop 0).take 1 = [.int .i64 z0] := by rw [← oaInt]; exact e0
  have d1 : (cs.drop 1).take 9 = a.cells := by rw [← oaSess]; exact e1
  have d2 : (cs.drop 10).take 1 = [.int .i64 z2] := by rw [← oaInt]; exact e2
  have d3 : (cs.drop 11).take 1 = [.int .i64 z3] := by rw [← oaInt]; exact e3
  have d4 : (cs.drop 12).take 1 = [.bool z4] := by rw [← oaBool]; exact e4
  refine ⟨⟨z0, a, z2, z3, z4⟩, ?_, ga⟩
  have e : cs = cs.drop 0 := rfl
  rw [e, cut_at cs 0 1, cut_at cs (0 + 1) 9, cut_at cs (0 + 1 + 9) 1, cut_at cs (0 + 1 + 9 + 1) 1, cut_at cs (0 + 1 + 9 + 1 + 1) 1, d0, d1, d2, d3, d4, List.drop_of_length_le (by omega)]
  rfl
instance : Inhabited SV := ⟨⟨.zero, none, 0⟩⟩
instance : Inhabited Ac := ⟨⟨0, default, 0, 0, false⟩⟩
theorem open_acs {fuel : Nat} {A : Option Addr} {len cap : Nat} {x : DataW H × List MemPlace} (h : DataW.trod enc Try.prog w 0 (fun _ => true) true fuel 44 [.slice A len cap] = some x) :
    ∃ l : List Ac, l.length = len ∧ len ≤ 9223372036854775807 ∧ RowAt (fun _ => True) w A (acCells l) ∧ ∀ a ∈ l, a.x.Good w := by
  obtain ⟨l, h1, h2, _, h3, h4⟩ := open_slice_of Ac.cells 13 (fun _ => rfl) (by omega) (fun a => a.x.Good w) Try.underlying44 oaAct (fun n cs y hy => open_ac hy) h
  exact ⟨l, h1, h2, h3, h4⟩

end Go.Proofs.Ytimbhkbdmcbodaa
