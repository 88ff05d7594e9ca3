/-
  OpenT, CfgH, CfgN, CfgP, CfgI, CfgJ, CfgR, CfgS, RdA, RdP, RdQ, CfgL, CfgV, RdD, CfgW, CfgX, OpenC, RdE, RdF, LawH, RdG, RdI, LawC, LawP, LawE, DfA, LawG, OwnL, DfB in one text (pack.py).
-/
import Derived.Test.YtkiikbajbikdeaaQ1
import Derived.OpenShut
import Derived.Stop.BytesEq
import Derived.Laws.Rows
import Derived.Lib.BufferRead
import Derived.Deep.MidRow
import Derived.Great.BuildSlice
import Derived.Deep.Slices
import Derived.Deep.DrawnRows
import Derived.Deep.RegionLaw
import Derived.Deep.RegionHeld3
import Derived.Deep.DeepCutAuto
import Derived.Deep.CutBlock
import Derived.Deep.CutRange
namespace Go.Proofs.Ytkiikbajbikdeaa

section
attribute [local go_sem] stPair gtPair
attribute [local go_sem high] neqPair
open Go.ChangeShapes Go.WideShapes Go.ChangeAt Go.RowKit Go.Deep
set_option linter.unusedVariables false
variable {H : Type} {enc : TypeId × Value → H} {w : World}
/-- A tenant's numbers are numbers of their types. -/
structure Ten.wf (t : Ten) : Prop where
  vni : t.vni < 4294967296
  vtep : t.vtep < 4294967296
  pool : ∀ x ∈ t.pool, x < 4294967296
  lo : t.lo < 65536
  hi : t.hi < 65536
  filter : (Lit.int .i64 t.filter).wf = true
  statics : ∀ p ∈ t.statics, p.a < 4294967296 ∧ p.b < 4294967296
  twices : ∀ p ∈ t.twices, p.a < 4294967296 ∧ p.b < 4294967296
  sess : (Lit.int .i64 t.sess).wf = true
  queue : (Lit.int .i64 t.queue).wf = true
  rate : t.rate < 4294967296
  burst : t.burst < 4294967296
theorem trod_str {P : Program} {t : TypeId} {fuel : Nat} {cs : List Value} {x : DataW H × List MemPlace} {base : Nat} {spare : Nat → Bool} {held : Bool} (ht : P.underlying t = some .string) (h : DataW.trod enc P w base spare held fuel t cs = some x) : ∃ s, cs = [.string s] := by
  cases fuel with
  | zero => simp [DataW.trod] at h
  | succ n =>
    unfold DataW.trod at h
    rw [ht] at h
    split at h <;> simp_all
theorem nat_of_u32 {z : Int} (h : (Lit.int .u32 z).wf = true) : ∃ n : Nat, z = n ∧ n < 4294967296 := ⟨z.toNat, by
  have : 0 ≤ z ∧ z ≤ 4294967295 := by simpa [Lit.wf, IntKind.min, IntKind.max, IntKind.signed, IntKind.bits] using h
  omega⟩
theorem nat_of_u16 {z : Int} (h : (Lit.int .u16 z).wf = true) : ∃ n : Nat, z = n ∧ n < 65536 := ⟨z.toNat, by
  have : 0 ≤ z ∧ z ≤ 65535 := by simpa [Lit.wf, IntKind.min, IntKind.max, IntKind.signed, IntKind.bits] using h
  omega⟩
theorem byte_of_u8 {z : Int} (h : (Lit.int .u8 z).wf = true) : ∃ b : UInt8, z = (b.toNat : Int) := by
  have : 0 ≤ z ∧ z ≤ 255 := by simpa [Lit.wf, IntKind.min, IntKind.max, IntKind.signed, IntKind.bits] using h
  refine ⟨UInt8.ofNat z.toNat, ?_⟩
  rw [UInt8.toNat_ofNat']
  omega
theorem co5 : Try.prog.cellsOf 5 = 1 := by kernel_rfl
theorem coU32 : Try.prog.cellsOf 26 = 1 := by kernel_rfl
theorem coPr : Try.prog.cellsOf 68 = 2 := by kernel_rfl
theorem coTen : Try.prog.cellsOf 34 = 33 := by kernel_rfl
theorem open_u32 {fuel : Nat} {c : Value} {x : DataW H × List MemPlace} (h : DataW.trod enc Try.prog w 0 (fun _ => true) true fuel 26 [c] = some x) : ∃ n : Nat, c = .int .u32 (n : Int) ∧ n < 4294967296 := by
  obtain ⟨z, hz, _, hw⟩ := DataW.trod_int Try.underlying26 h
  obtain ⟨n, rfl, hn⟩ := nat_of_u32 hw
  cases hz
  exact ⟨n, rfl, hn⟩
theorem open_u16 {fuel : Nat} {c : Value} {x : DataW H × List MemPlace} (h : DataW.trod enc Try.prog w 0 (fun _ => true) true fuel 31 [c] = some x) : ∃ n : Nat, c = .int .u16 (n : Int) ∧ n < 65536 := by
  obtain ⟨z, hz, _, hw⟩ := DataW.trod_int Try.underlying31 h
  obtain ⟨n, rfl, hn⟩ := nat_of_u16 hw
  cases hz
  exact ⟨n, rfl, hn⟩
theorem open_i64 {fuel : Nat} {c : Value} {x : DataW H × List MemPlace} (h : DataW.trod enc Try.prog w 0 (fun _ => true) true fuel 3 [c] = some x) : ∃ n : Int, c = .int .i64 n ∧ (Lit.int .i64 n).wf = true := by
  obtain ⟨z, hz, _, hw⟩ := DataW.trod_int Try.underlying3 h
  cases hz
  exact ⟨z, rfl, hw⟩
theorem open_u8 {fuel : Nat} {c : Value} {x : DataW H × List MemPlace} (h : DataW.trod enc Try.prog w 0 (fun _ => true) true fuel 5 [c] = some x) : ∃ b : UInt8, c = .int .u8 (b.toNat : Int) := by
  obtain ⟨z, hz, _, hw⟩ := DataW.trod_int Try.underlying5 h
  obtain ⟨n, rfl⟩ := byte_of_u8 hw
  cases hz
  exact ⟨n, rfl⟩
/-- An array of bytes: each of its cells. -/
theorem open_arr {t : TypeId} {n fuel : Nat} {cs : List Value} {x : DataW H × List MemPlace} (ht : Try.prog.underlying t = some (.array n 5)) (h : DataW.trod enc Try.prog w 0 (fun _ => true) true fuel t cs = some x) : ∀ i c, i < n → cs[i]? = some c → ∃ b : UInt8, c = .int .u8 (b.toNat : Int) := by
  obtain ⟨xs, m, _, _, _, hl, hx⟩ := DataW.trod_array ht h
  intro i c hi hc
  have h1 := hx i hi
  rw [co5, Nat.mul_one] at h1
  have h2 : (cs.drop i).take 1 = [c] := by
    have hlt := (List.getElem?_eq_some_iff.1 hc).1
    rw [List.drop_eq_getElem_cons hlt, (List.getElem?_eq_some_iff.1 hc).2]
    rfl
  rw [h2, List.getElem?_eq_getElem (by omega)] at h1
  exact open_u8 h1
theorem open_nums {fuel : Nat} {c : Value} {x : DataW H × List MemPlace} (h : DataW.trod enc Try.prog w 0 (fun _ => true) true fuel 30 [c] = some x) : ∃ (A : Option Addr) (k : Nat) (l : List Nat), c = .slice A l.length k ∧ RowAt (fun _ => True) w A (numCells l) ∧ ∀ x ∈ l, x < 4294967296 := by
  obtain ⟨A, n, k, rfl⟩ : ∃ A n k, c = .slice A n k := by
    rcases open_ints Try.underlying30 Try.underlying26 coU32 h with ⟨hcs, _⟩ | ⟨a, len', cap', zs, hcs, _⟩
    · cases hcs; exact ⟨_, _, _, rfl⟩
    · cases hcs; exact ⟨_, _, _, rfl⟩
  obtain ⟨zs, hz, _, hrow, hw⟩ := open_row_ints Try.underlying30 Try.underlying26 coU32 h
  refine ⟨A, k, zs.map (·.toNat), by rw [List.length_map, hz], ?_, fun x hx => by
    obtain ⟨z, hz, rfl⟩ := List.mem_map.1 hx
    obtain ⟨n, rfl, hn⟩ := nat_of_u32 (hw z hz)
    simpa using hn⟩
  have e : numCells (zs.map (·.toNat)) = zs.map fun z => .int .u32 z := by
    simp only [numCells, List.map_map]
    refine List.map_congr_left fun z hz => ?_
    obtain ⟨n, rfl, _⟩ := nat_of_u32 (hw z hz)
    simp
  rw [e]
  exact hrow
set_option maxRecDepth 100000 in
theorem open_prs {fuel : Nat} {c : Value} {x : DataW H × List MemPlace} (h : DataW.trod enc Try.prog w 0 (fun _ => true) true fuel 32 [c] = some x) : ∃ (A : Option Addr) (k : Nat) (l : List Pr), c = .slice A l.length k ∧ RowAt (fun _ => True) w A (prCells l) ∧ ∀ p ∈ l, p.a < 4294967296 ∧ p.b < 4294967296 := by
  rcases open_slice_pairs Try.underlying32 Try.underlying68 coPr rfl rfl coU32 coU32 h with ⟨hcs, hx⟩ | ⟨a, len, cap, m, n, V0, V1, D0, D1, P0, P1, hcs, _, hl, hm, hmm, _, hx⟩
  · cases hcs
    exact ⟨none, 0, [], rfl, .nil _ _ _, by simp⟩
  · cases hcs
    simp only [if_true] at hmm
    have hv : ∀ i, i < len → ∃ p : Pr, V0 i = .int .u32 (p.a : Int) ∧ V1 i = .int .u32 (p.b : Int) ∧ p.a < 4294967296 ∧ p.b < 4294967296 := by
      intro i hi
      obtain ⟨_, _, h2, h3⟩ := hx i (by omega)
      obtain ⟨n0, e0, b0⟩ := open_u32 h2
      obtain ⟨n1, e1, b1⟩ := open_u32 h3
      exact ⟨⟨n0, n1⟩, e0, e1, b0, b1⟩
    obtain ⟨g, hg⟩ : ∃ g : Nat → Pr, ∀ i, i < len → V0 i = .int .u32 ((g i).a : Int) ∧ V1 i = .int .u32 ((g i).b : Int) ∧ (g i).a < 4294967296 ∧ (g i).b < 4294967296 :=
      ⟨fun i => if h : i < len then (hv i h).choose else default, fun i hi => by simp only [hi, dif_pos]; exact (hv i hi).choose_spec⟩
    refine ⟨some a, cap, (List.range len).map g, by simp, ?_, fun p hp => by
      obtain ⟨i, hi, rfl⟩ := List.mem_map.1 hp
      exact (hg i (by simpa using hi)).2.2⟩
    by_cases h0 : len = 0
    · subst h0
      exact .nil _ _ _
    · obtain ⟨b, o, spot⟩ := a
      have hs : spot = none := by
        obtain ⟨h1, _⟩ := hx 0 (by omega)
        simpa [Addr.add] using World.cell?_spot h1
      subst hs
      refine .inr ⟨b, o, rfl, trivial, fun j v hj => ?_⟩
      have hjl := (List.getElem?_eq_some_iff.1 hj).1
      rw [prCells_length, List.length_map, List.length_range] at hjl
      have hi : j / 2 < len := by omega
      have hr : ((List.range len).map g)[j / 2]? = some (g (j / 2)) := by simp [hi]
      have hf := flat_at Pr.cells 2 Pr.cells_length _ (j / 2) (j % 2) _ hr (by omega)
      rw [show j / 2 * 2 + j % 2 = j by omega] at hf
      have hj' : (g (j / 2)).cells[j % 2]? = some v := by rw [← hf]; exact hj
      obtain ⟨h1, h2, _, _⟩ := hx (j / 2) (by omega)
      rw [(hg _ hi).1] at h1
      rw [(hg _ hi).2.1] at h2
      rw [Addr.add_lit] at h1 h2
      have hm2 : j % 2 = 0 ∨ j % 2 = 1 := by omega
      rcases hm2 with e | e
      · rw [e] at hj'
        simp only [Pr.cells, List.getElem?_cons_zero, Option.some.injEq] at hj'
        rw [← hj', show o + j = o + j / 2 * 2 by omega]
        exact h1
      · rw [e] at hj'
        simp only [Pr.cells, List.getElem?_cons_succ, List.getElem?_cons_zero, Option.some.injEq] at hj'
        rw [← hj', show o + j = o + (j / 2 * 2 + 1) by omega]
        exact h2
theorem coStr : Try.prog.cellsOf 9 = 1 := by kernel_rfl
theorem coK8 : Try.prog.cellsOf 27 = 8 := by kernel_rfl
theorem coM6 : Try.prog.cellsOf 29 = 6 := by kernel_rfl
theorem coLU : Try.prog.cellsOf 30 = 1 := by kernel_rfl
theorem coU16 : Try.prog.cellsOf 31 = 1 := by kernel_rfl
theorem coI : Try.prog.cellsOf 3 = 1 := by kernel_rfl
theorem coLP : Try.prog.cellsOf 32 = 1 := by kernel_rfl
theorem list33 {α : Type} : ∀ (l : List α), l.length = 33 → ∃ c0 c1 c2 c3 c4 c5 c6 c7 c8 c9 c10 c11 c12 c13 c14 c15 c16 c17 c18 c19 c20 c21 c22 c23 c24 c25 c26 c27 c28 c29 c30 c31 c32, l = [c0, c1, c2, c3, c4, c5, c6, c7, c8, c9, c10, c11, c12, c13, c14, c15, c16, c17, c18, c19, c20, c21, c22, c23, c24, c25, c26, c27, c28, c29, c30, c31, c32]
  | c0 :: c1 :: c2 :: c3 :: c4 :: c5 :: c6 :: c7 :: c8 :: c9 :: c10 :: c11 :: c12 :: c13 :: c14 :: c15 :: c16 :: c17 :: c18 :: c19 :: c20 :: c21 :: c22 :: c23 :: c24 :: c25 :: c26 :: c27 :: c28 :: c29 :: c30 :: c31 :: c32 :: [], _ => ⟨c0, c1, c2, c3, c4, c5, c6, c7, c8, c9, c10, c11, c12, c13, c14, c15, c16, c17, c18, c19, c20, c21, c22, c23, c24, c25, c26, c27, c28, c29, c30, c31, c32, rfl⟩
set_option maxRecDepth 100000 in
set_option maxHeartbeats 2000000 in
theorem open_ten {fuel : Nat} {cs : List Value} {x : DataW H × List MemPlace} (h : DataW.trod enc Try.prog w 0 (fun _ => true) true fuel 34 cs = some x) : ∃ t : Ten, TenV (fun _ => True) w t (.agg cs.toArray) ∧ t.wf := by
  obtain ⟨xs, n, _, _, hl, hlen, hf⟩ := DataW.trod_struct Try.underlying34 h
  rw [coTen] at hl
  obtain ⟨c0, c1, c2, c3, c4, c5, c6, c7, c8, c9, c10, c11, c12, c13, c14, c15, c16, c17, c18, c19, c20, c21, c22, c23, c24, c25, c26, c27, c28, c29, c30, c31, c32, rfl⟩ := list33 cs hl
  have hg : ∀ i, i < 16 → ∃ y, xs[i]? = some y := fun i hi => ⟨_, List.getElem?_eq_getElem (by rw [hlen]; exact hi)⟩
  obtain ⟨y0, hy0⟩ := hg 0 (by decide)
  have t0 : DataW.trod enc Try.prog w 0 (fun _ => true) true n 9 [c0] = some y0 := by
    have : DataW.trod enc Try.prog w 0 (fun _ => true) true n 9 ((List.drop 0 [c0, c1, c2, c3, c4, c5, c6, c7, c8, c9, c10, c11, c12, c13, c14, c15, c16, c17, c18, c19, c20, c21, c22, c23, c24, c25, c26, c27, c28, c29, c30, c31, c32]).take (Try.prog.cellsOf 9)) = xs[0]? := hf 0 _ rfl
    rw [hy0] at this
    rw [coStr] at this
    exact this
  obtain ⟨y1, hy1⟩ := hg 1 (by decide)
  have t1 : DataW.trod enc Try.prog w 0 (fun _ => true) true n 26 [c1] = some y1 := by
    have : DataW.trod enc Try.prog w 0 (fun _ => true) true n 26 ((List.drop 1 [c0, c1, c2, c3, c4, c5, c6, c7, c8, c9, c10, c11, c12, c13, c14, c15, c16, c17, c18, c19, c20, c21, c22, c23, c24, c25, c26, c27, c28, c29, c30, c31, c32]).take (Try.prog.cellsOf 26)) = xs[1]? := hf 1 _ rfl
    rw [hy1] at this
    rw [coU32] at this
    exact this
  obtain ⟨y2, hy2⟩ := hg 2 (by decide)
  have t2 : DataW.trod enc Try.prog w 0 (fun _ => true) true n 27 [c2, c3, c4, c5, c6, c7, c8, c9] = some y2 := by
    have : DataW.trod enc Try.prog w 0 (fun _ => true) true n 27 ((List.drop 2 [c0, c1, c2, c3, c4, c5, c6, c7, c8, c9, c10, c11, c12, c13, c14, c15, c16, c17, c18, c19, c20, c21, c22, c23, c24, c25, c26, c27, c28, c29, c30, c31, c32]).take (Try.prog.cellsOf 27)) = xs[2]? := hf 2 _ rfl
    rw [hy2] at this
    rw [coK8] at this
    exact this
  obtain ⟨y3, hy3⟩ := hg 3 (by decide)
  have t3 : DataW.trod enc Try.prog w 0 (fun _ => true) true n 26 [c10] = some y3 := by
    have : DataW.trod enc Try.prog w 0 (fun _ => true) true n 26 ((List.drop 10 [c0, c1, c2, c3, c4, c5, c6, c7, c8, c9, c10, c11, c12, c13, c14, c15, c16, c17, c18, c19, c20, c21, c22, c23, c24, c25, c26, c27, c28, c29, c30, c31, c32]).take (Try.prog.cellsOf 26)) = xs[3]? := hf 3 _ rfl
    rw [hy3] at this
    rw [coU32] at this
    exact this
  obtain ⟨y4, hy4⟩ := hg 4 (by decide)
  have t4 : DataW.trod enc Try.prog w 0 (fun _ => true) true n 29 [c11, c12, c13, c14, c15, c16] = some y4 := by
    have : DataW.trod enc Try.prog w 0 (fun _ => true) true n 29 ((List.drop 11 [c0, c1, c2, c3, c4, c5, c6, c7, c8, c9, c10, c11, c12, c13, c14, c15, c16, c17, c18, c19, c20, c21, c22, c23, c24, c25, c26, c27, c28, c29, c30, c31, c32]).take (Try.prog.cellsOf 29)) = xs[4]? := hf 4 _ rfl
    rw [hy4] at this
    rw [coM6] at this
    exact this
  obtain ⟨y5, hy5⟩ := hg 5 (by decide)
  have t5 : DataW.trod enc Try.prog w 0 (fun _ => true) true n 29 [c17, c18, c19, c20, c21, c22] = some y5 := by
    have : DataW.trod enc Try.prog w 0 (fun _ => true) true n 29 ((List.drop 17 [c0, c1, c2, c3, c4, c5, c6, c7, c8, c9, c10, c11, c12, c13, c14, c15, c16, c17, c18, c19, c20, c21, c22, c23, c24, c25, c26, c27, c28, c29, c30, c31, c32]).take (Try.prog.cellsOf 29)) = xs[5]? := hf 5 _ rfl
    rw [hy5] at this
    rw [coM6] at this
    exact this
  obtain ⟨y6, hy6⟩ := hg 6 (by decide)
  have t6 : DataW.trod enc Try.prog w 0 (fun _ => true) true n 30 [c23] = some y6 := by
    have : DataW.trod enc Try.prog w 0 (fun _ => true) true n 30 ((List.drop 23 [c0, c1, c2, c3, c4, c5, c6, c7, c8, c9, c10, c11, c12, c13, c14, c15, c16, c17, c18, c19, c20, c21, c22, c23, c24, c25, c26, c27, c28, c29, c30, c31, c32]).take (Try.prog.cellsOf 30)) = xs[6]? := hf 6 _ rfl
    rw [hy6] at this
    rw [coLU] at this
    exact this
  obtain ⟨y7, hy7⟩ := hg 7 (by decide)
  have t7 : DataW.trod enc Try.prog w 0 (fun _ => true) true n 31 [c24] = some y7 := by
    have : DataW.trod enc Try.prog w 0 (fun _ => true) true n 31 ((List.drop 24 [c0, c1, c2, c3, c4, c5, c6, c7, c8, c9, c10, c11, c12, c13, c14, c15, c16, c17, c18, c19, c20, c21, c22, c23, c24, c25, c26, c27, c28, c29, c30, c31, c32]).take (Try.prog.cellsOf 31)) = xs[7]? := hf 7 _ rfl
    rw [hy7] at this
    rw [coU16] at this
    exact this
  obtain ⟨y8, hy8⟩ := hg 8 (by decide)
  have t8 : DataW.trod enc Try.prog w 0 (fun _ => true) true n 31 [c25] = some y8 := by
    have : DataW.trod enc Try.prog w 0 (fun _ => true) true n 31 ((List.drop 25 [c0, c1, c2, c3, c4, c5, c6, c7, c8, c9, c10, c11, c12, c13, c14, c15, c16, c17, c18, c19, c20, c21, c22, c23, c24, c25, c26, c27, c28, c29, c30, c31, c32]).take (Try.prog.cellsOf 31)) = xs[8]? := hf 8 _ rfl
    rw [hy8] at this
    rw [coU16] at this
    exact this
  obtain ⟨y9, hy9⟩ := hg 9 (by decide)
  have t9 : DataW.trod enc Try.prog w 0 (fun _ => true) true n 3 [c26] = some y9 := by
    have : DataW.trod enc Try.prog w 0 (fun _ => true) true n 3 ((List.drop 26 [c0, c1, c2, c3, c4, c5, c6, c7, c8, c9, c10, c11, c12, c13, c14, c15, c16, c17, c18, c19, c20, c21, c22, c23, c24, c25, c26, c27, c28, c29, c30, c31, c32]).take (Try.prog.cellsOf 3)) = xs[9]? := hf 9 _ rfl
    rw [hy9] at this
    rw [coI] at this
    exact this
  obtain ⟨y10, hy10⟩ := hg 10 (by decide)
  have t10 : DataW.trod enc Try.prog w 0 (fun _ => true) true n 32 [c27] = some y10 := by
    have : DataW.trod enc Try.prog w 0 (fun _ => true) true n 32 ((List.drop 27 [c0, c1, c2, c3, c4, c5, c6, c7, c8, c9, c10, c11, c12, c13, c14, c15, c16, c17, c18, c19, c20, c21, c22, c23, c24, c25, c26, c27, c28, c29, c30, c31, c32]).take (Try.prog.cellsOf 32)) = xs[10]? := hf 10 _ rfl
    rw [hy10] at this
    rw [coLP] at this
    exact this
  obtain ⟨y11, hy11⟩ := hg 11 (by decide)
  have t11 : DataW.trod enc Try.prog w 0 (fun _ => true) true n 32 [c28] = some y11 := by
    have : DataW.trod enc Try.prog w 0 (fun _ => true) true n 32 ((List.drop 28 [c0, c1, c2, c3, c4, c5, c6, c7, c8, c9, c10, c11, c12, c13, c14, c15, c16, c17, c18, c19, c20, c21, c22, c23, c24, c25, c26, c27, c28, c29, c30, c31, c32]).take (Try.prog.cellsOf 32)) = xs[11]? := hf 11 _ rfl
    rw [hy11] at this
    rw [coLP] at this
    exact this
  obtain ⟨y12, hy12⟩ := hg 12 (by decide)
  have t12 : DataW.trod enc Try.prog w 0 (fun _ => true) true n 3 [c29] = some y12 := by
    have : DataW.trod enc Try.prog w 0 (fun _ => true) true n 3 ((List.drop 29 [c0, c1, c2, c3, c4, c5, c6, c7, c8, c9, c10, c11, c12, c13, c14, c15, c16, c17, c18, c19, c20, c21, c22, c23, c24, c25, c26, c27, c28, c29, c30, c31, c32]).take (Try.prog.cellsOf 3)) = xs[12]? := hf 12 _ rfl
    rw [hy12] at this
    rw [coI] at this
    exact this
  obtain ⟨y13, hy13⟩ := hg 13 (by decide)
  have t13 : DataW.trod enc Try.prog w 0 (fun _ => true) true n 3 [c30] = some y13 := by
    have : DataW.trod enc Try.prog w 0 (fun _ => true) true n 3 ((List.drop 30 [c0, c1, c2, c3, c4, c5, c6, c7, c8, c9, c10, c11, c12, c13, c14, c15, c16, c17, c18, c19, c20, c21, c22, c23, c24, c25, c26, c27, c28, c29, c30, c31, c32]).take (Try.prog.cellsOf 3)) = xs[13]? := hf 13 _ rfl
    rw [hy13] at this
    rw [coI] at this
    exact this
  obtain ⟨y14, hy14⟩ := hg 14 (by decide)
  have t14 : DataW.trod enc Try.prog w 0 (fun _ => true) true n 26 [c31] = some y14 := by
    have : DataW.trod enc Try.prog w 0 (fun _ => true) true n 26 ((List.drop 31 [c0, c1, c2, c3, c4, c5, c6, c7, c8, c9, c10, c11, c12, c13, c14, c15, c16, c17, c18, c19, c20, c21, c22, c23, c24, c25, c26, c27, c28, c29, c30, c31, c32]).take (Try.prog.cellsOf 26)) = xs[14]? := hf 14 _ rfl
    rw [hy14] at this
    rw [coU32] at this
    exact this
  obtain ⟨y15, hy15⟩ := hg 15 (by decide)
  have t15 : DataW.trod enc Try.prog w 0 (fun _ => true) true n 26 [c32] = some y15 := by
    have : DataW.trod enc Try.prog w 0 (fun _ => true) true n 26 ((List.drop 32 [c0, c1, c2, c3, c4, c5, c6, c7, c8, c9, c10, c11, c12, c13, c14, c15, c16, c17, c18, c19, c20, c21, c22, c23, c24, c25, c26, c27, c28, c29, c30, c31, c32]).take (Try.prog.cellsOf 26)) = xs[15]? := hf 15 _ rfl
    rw [hy15] at this
    rw [coU32] at this
    exact this
  clear hf hg h hl hlen
  obtain ⟨s, hs⟩ := trod_str Try.underlying9 t0
  cases hs
  obtain ⟨vni, rfl, bvni⟩ := open_u32 t1
  obtain ⟨key0, rfl⟩ := open_arr Try.underlying27 t2 0 _ (by decide) rfl
  obtain ⟨key1, rfl⟩ := open_arr Try.underlying27 t2 1 _ (by decide) rfl
  obtain ⟨key2, rfl⟩ := open_arr Try.underlying27 t2 2 _ (by decide) rfl
  obtain ⟨key3, rfl⟩ := open_arr Try.underlying27 t2 3 _ (by decide) rfl
  obtain ⟨key4, rfl⟩ := open_arr Try.underlying27 t2 4 _ (by decide) rfl
  obtain ⟨key5, rfl⟩ := open_arr Try.underlying27 t2 5 _ (by decide) rfl
  obtain ⟨key6, rfl⟩ := open_arr Try.underlying27 t2 6 _ (by decide) rfl
  obtain ⟨key7, rfl⟩ := open_arr Try.underlying27 t2 7 _ (by decide) rfl
  obtain ⟨vtep, rfl, bvtep⟩ := open_u32 t3
  obtain ⟨vmac0, rfl⟩ := open_arr Try.underlying29 t4 0 _ (by decide) rfl
  obtain ⟨vmac1, rfl⟩ := open_arr Try.underlying29 t4 1 _ (by decide) rfl
  obtain ⟨vmac2, rfl⟩ := open_arr Try.underlying29 t4 2 _ (by decide) rfl
  obtain ⟨vmac3, rfl⟩ := open_arr Try.underlying29 t4 3 _ (by decide) rfl
  obtain ⟨vmac4, rfl⟩ := open_arr Try.underlying29 t4 4 _ (by decide) rfl
  obtain ⟨vmac5, rfl⟩ := open_arr Try.underlying29 t4 5 _ (by decide) rfl
  obtain ⟨host0, rfl⟩ := open_arr Try.underlying29 t5 0 _ (by decide) rfl
  obtain ⟨host1, rfl⟩ := open_arr Try.underlying29 t5 1 _ (by decide) rfl
  obtain ⟨host2, rfl⟩ := open_arr Try.underlying29 t5 2 _ (by decide) rfl
  obtain ⟨host3, rfl⟩ := open_arr Try.underlying29 t5 3 _ (by decide) rfl
  obtain ⟨host4, rfl⟩ := open_arr Try.underlying29 t5 4 _ (by decide) rfl
  obtain ⟨host5, rfl⟩ := open_arr Try.underlying29 t5 5 _ (by decide) rfl
  obtain ⟨P, p, pool, rfl, rP, bpool⟩ := open_nums t6
  obtain ⟨lo, rfl, blo⟩ := open_u16 t7
  obtain ⟨hi, rfl, bhi⟩ := open_u16 t8
  obtain ⟨filter, rfl, bfilter⟩ := open_i64 t9
  obtain ⟨Q, q, statics, rfl, rQ, bstatics⟩ := open_prs t10
  obtain ⟨R, r, twices, rfl, rR, btwices⟩ := open_prs t11
  obtain ⟨sess, rfl, bsess⟩ := open_i64 t12
  obtain ⟨queue, rfl, bqueue⟩ := open_i64 t13
  obtain ⟨rate, rfl, brate⟩ := open_u32 t14
  obtain ⟨burst, rfl, bburst⟩ := open_u32 t15
  exact ⟨⟨s.data.toList, vni, ⟨key0, key1, key2, key3, key4, key5, key6, key7⟩, vtep, ⟨vmac0, vmac1, vmac2, vmac3, vmac4, vmac5⟩, ⟨host0, host1, host2, host3, host4, host5⟩, pool, lo, hi, filter, statics, twices, sess, queue, rate, burst⟩, ⟨P, p, Q, q, R, r, rfl, rP, rQ, rR⟩, ⟨bvni, bvtep, bpool, blo, bhi, bfilter, bstatics, btwices, bsess, bqueue, brate, bburst⟩⟩
end

section
attribute [local go_sem] stPair gtPair
attribute [local go_sem high] neqPair
open Go.RowKit
set_option linter.unusedVariables false
theorem szU8 : ∀ w, (sizeOf 5).run Try.prog w = .ok 1 w := fun w => by kernel_rfl
theorem gtK8 : Try.prog.eqGuardType Try.prog.depth 27 = false := by kernel_rfl
attribute [local go_sem] gtK8
theorem gtM6 : Try.prog.eqGuardType Try.prog.depth 29 = false := by kernel_rfl
attribute [local go_sem] gtM6
theorem k8_beq (a b : K8) : (a.l == b.l) = decide (a = b) := by
  obtain ⟨a0, a1, a2, a3, a4, a5, a6, a7⟩ := a
  obtain ⟨b0, b1, b2, b3, b4, b5, b6, b7⟩ := b
  rw [Bool.eq_iff_iff]
  simp [K8.l]
theorem m6_beq (a b : M6) : (a.l == b.l) = decide (a = b) := by
  obtain ⟨a0, a1, a2, a3, a4, a5⟩ := a
  obtain ⟨b0, b1, b2, b3, b4, b5⟩ := b
  rw [Bool.eq_iff_iff]
  simp [M6.l]
theorem eqK8 (a b : K8) (w : World) : (binOp .eql 27 (.agg #[.int .u8 (a.b0.toNat : Int), .int .u8 (a.b1.toNat : Int), .int .u8 (a.b2.toNat : Int), .int .u8 (a.b3.toNat : Int), .int .u8 (a.b4.toNat : Int), .int .u8 (a.b5.toNat : Int), .int .u8 (a.b6.toNat : Int), .int .u8 (a.b7.toNat : Int)]) (.agg #[.int .u8 (b.b0.toNat : Int), .int .u8 (b.b1.toNat : Int), .int .u8 (b.b2.toNat : Int), .int .u8 (b.b3.toNat : Int), .int .u8 (b.b4.toNat : Int), .int .u8 (b.b5.toNat : Int), .int .u8 (b.b6.toNat : Int), .int .u8 (b.b7.toNat : Int)])).run Try.prog w = .ok (.bool (decide (a = b))) w := by
  rw [← k8_beq]
  exact run_eql_bytes w 27 5 8 Try.underlying27 Try.underlying5 szU8 a.l b.l rfl rfl
attribute [local go_sem high] eqK8
theorem eqM6 (a b : M6) (w : World) : (binOp .eql 29 (.agg #[.int .u8 (a.b0.toNat : Int), .int .u8 (a.b1.toNat : Int), .int .u8 (a.b2.toNat : Int), .int .u8 (a.b3.toNat : Int), .int .u8 (a.b4.toNat : Int), .int .u8 (a.b5.toNat : Int)]) (.agg #[.int .u8 (b.b0.toNat : Int), .int .u8 (b.b1.toNat : Int), .int .u8 (b.b2.toNat : Int), .int .u8 (b.b3.toNat : Int), .int .u8 (b.b4.toNat : Int), .int .u8 (b.b5.toNat : Int)])).run Try.prog w = .ok (.bool (decide (a = b))) w := by
  rw [← m6_beq]
  exact run_eql_bytes w 29 5 6 Try.underlying29 Try.underlying5 szU8 a.l b.l rfl rfl
attribute [local go_sem high] eqM6
theorem str_beq (l m : List UInt8) : ((str l).toList == (str m).toList) = decide (l = m) := by
  rw [ByteArray.toList_eq, ByteArray.toList_eq, Bool.eq_iff_iff]
  simp [str]
theorem ten_beq (a b : Ten) : (((((((((((((((decide (a.name = b.name) && ((a.vni : Int) == b.vni)) && decide (a.key = b.key)) && ((a.vtep : Int) == b.vtep)) && decide (a.vmac = b.vmac)) && decide (a.host = b.host)) && decide (a.pool = b.pool)) && ((a.lo : Int) == b.lo)) && ((a.hi : Int) == b.hi)) && (a.filter == b.filter)) && decide (a.statics = b.statics)) && decide (a.twices = b.twices)) && (a.sess == b.sess)) && (a.queue == b.queue)) && ((a.rate : Int) == b.rate)) && ((a.burst : Int) == b.burst)) = decide (a = b) := by
  obtain ⟨a0, a1, a2, a3, a4, a5, a6, a7, a8, a9, a10, a11, a12, a13, a14, a15⟩ := a
  obtain ⟨b0, b1, b2, b3, b4, b5, b6, b7, b8, b9, b10, b11, b12, b13, b14, b15⟩ := b
  rw [Bool.eq_iff_iff]
  simp only [nat_beq, Bool.and_eq_true, decide_eq_true_eq, beq_iff_eq, Ten.mk.injEq, and_assoc]
set_option maxRecDepth 100000 in
theorem box_ten (CA : Array Value) (h : CA.size = 33) : ∀ W, (Instr.box 34 (.agg CA)).run Try.prog W = .ok (.pointer (some ⟨W.heap.size, 0, none⟩)) (W.alloc (.cells CA 34)) := by
  intro W
  go_simp
set_option maxRecDepth 100000 in
set_option maxHeartbeats 2000000 in
theorem same_ok {S S' : Nat → Prop} {w : World} (a b : Ten) (va vb : Value) (ha : TenV S w a va) (hb : TenV S' w b vb) (la : a.pool.length ≤ 9223372036854775807) (ls : a.statics.length ≤ 9223372036854775807) (lt : a.twices.length ≤ 9223372036854775807) :
    Calls Try.prog 32 #[va, vb] w fun e w' => e = .returned (.bool (decide (a = b))) ∧ Mod No w w' := by
  obtain ⟨P, p, Q, q, R, r, rfl, h1, h2, h3⟩ := ha.val
  obtain ⟨P', p', Q', q', R', r', rfl, h1', h2', h3'⟩ := hb.val
  obtain ⟨CA, hCA⟩ : ∃ CA, CA = a.cells (.slice P a.pool.length p) (.slice Q a.statics.length q) (.slice R a.twices.length r) := ⟨_, rfl⟩
  obtain ⟨CB, hCB⟩ : ∃ CB, CB = b.cells (.slice P' b.pool.length p') (.slice Q' b.statics.length q') (.slice R' b.twices.length r') := ⟨_, rfl⟩
  have bA := box_ten CA (by rw [hCA]; rfl)
  have bB := box_ten CB (by rw [hCB]; rfl)
  rw [← hCA, ← hCB]
  have hm2 : ∀ q, Mod No w (((w.alloc (.cells CA 34)).alloc (.cells CB 34)).drewN q) := fun q => Mod.drewN (Mod.alloc (Mod.alloc (Mod.refl _ _) _) _) q
  have k1 : ∀ q, RowAt (fun b => S b ∧ b < w.heap.size) (((w.alloc (.cells CA 34)).alloc (.cells CB 34)).drewN q) P (numCells a.pool) := fun q => (h1.mono (fun b hb hs => ⟨hs, hb⟩)).keeps ((hm2 q).keeps (fun _ _ _ f => f))
  have k2 : ∀ q, RowAt (fun b => S b ∧ b < w.heap.size) (((w.alloc (.cells CA 34)).alloc (.cells CB 34)).drewN q) Q (prCells a.statics) := fun q => (h2.mono (fun b hb hs => ⟨hs, hb⟩)).keeps ((hm2 q).keeps (fun _ _ _ f => f))
  have k3 : ∀ q, RowAt (fun b => S b ∧ b < w.heap.size) (((w.alloc (.cells CA 34)).alloc (.cells CB 34)).drewN q) R (prCells a.twices) := fun q => (h3.mono (fun b hb hs => ⟨hs, hb⟩)).keeps ((hm2 q).keeps (fun _ _ _ f => f))
  have k1' : ∀ q, RowAt (fun b => S' b ∧ b < w.heap.size) (((w.alloc (.cells CA 34)).alloc (.cells CB 34)).drewN q) P' (numCells b.pool) := fun q => (h1'.mono (fun b hb hs => ⟨hs, hb⟩)).keeps ((hm2 q).keeps (fun _ _ _ f => f))
  have k2' : ∀ q, RowAt (fun b => S' b ∧ b < w.heap.size) (((w.alloc (.cells CA 34)).alloc (.cells CB 34)).drewN q) Q' (prCells b.statics) := fun q => (h2'.mono (fun b hb hs => ⟨hs, hb⟩)).keeps ((hm2 q).keeps (fun _ _ _ f => f))
  have k3' : ∀ q, RowAt (fun b => S' b ∧ b < w.heap.size) (((w.alloc (.cells CA 34)).alloc (.cells CB 34)).drewN q) R' (prCells b.twices) := fun q => (h3'.mono (fun b hb hs => ⟨hs, hb⟩)).keeps ((hm2 q).keeps (fun _ _ _ f => f))
  have hcells : ∀ q, (∀ j, (((w.alloc (.cells CA 34)).alloc (.cells CB 34)).drewN q).cell? ⟨w.heap.size, j, none⟩ = CA[j]?) ∧ (∀ j, (((w.alloc (.cells CA 34)).alloc (.cells CB 34)).drewN q).cell? ⟨w.heap.size + 1, j, none⟩ = CB[j]?) := fun q =>
    ⟨fun j => blk_cell (at20 w (.cells CA 34) (.cells CB 34)) j, fun j => blk_cell (at21 w (.cells CA 34) (.cells CB 34)) j⟩
  have HH := Lib.hid (And.intro k1 (And.intro k2 (And.intro k3 (And.intro k1' (And.intro k2' (And.intro k3' hcells))))))
  have HM := Lib.hid hm2
  have HA := Lib.hid hCA
  have HB := Lib.hid hCB
  clear ha hb h1 h2 h3 h1' h2' h3' k1 k2 k3 k1' k2' k3' hcells hm2 hCA hCB
  go_enter Try.func32, Try.ntmps32
  go_upto_region 1 with fail
  refine wp_region_lit ?_
  refine chain_first (n := 115) (pA := .pointer (some ⟨w.heap.size, 0, none⟩)) (pB := .pointer (some ⟨w.heap.size + 1, 0, none⟩)) (s1 := 5) (s2 := 6) (s3 := 7) (s4 := 8) (s5 := 9) (d' := 10) (e' := decide (a.name = b.name)) (R := (fun w' => ∃ q, w' = (((w.alloc (.cells CA 34)).alloc (.cells CB 34)).drewN q))) rfl rfl rfl rfl rfl rfl rfl rfl rfl rfl rfl rfl rfl rfl rfl rfl rfl rfl ?_ ?_
  ·
    have ca0 : CA[0]? = some (Value.string (str a.name)) := by rw [HA.out]; rfl
    have cb0 : CB[0]? = some (Value.string (str b.name)) := by rw [HB.out]; rfl
    refine ⟨.pointer (some ⟨w.heap.size, 0, none⟩), (.string (str a.name)), .pointer (some ⟨w.heap.size + 1, 0, none⟩), (.string (str b.name)), ?_, ?_, ?_, ?_, .inl ⟨?_, 0, rfl⟩⟩
    · intro ρ h; simp only [execOp, h]; go_simp
    · intro ρ h; simp only [execOp, h]; go_simp
    · intro ρ h; simp only [execOp, h]; go_simp
    · intro ρ h; simp only [execOp, h]; go_simp
    · intro ρ h1 h2; simp only [execOp, h1, h2]; go_simp; exact str_beq _ _
  rintro a0 _ hinv ⟨q1, rfl⟩
  refine chain_test (i := 5) (s1 := 11) (s2 := 12) (s3 := 13) (s4 := 14) (s5 := 15) (s6 := 16) (d' := 17) (e' := ((a.vni : Int) == b.vni)) (R := (fun w' => ∃ q, w' = (((w.alloc (.cells CA 34)).alloc (.cells CB 34)).drewN q))) hinv rfl rfl rfl rfl rfl rfl rfl rfl rfl rfl rfl rfl rfl rfl rfl rfl rfl (.inl rfl) ?_ ⟨q1, rfl⟩ ?_
  ·
    have ca1 : CA[1]? = some (Value.int .u32 (a.vni : Int)) := by rw [HA.out]; rfl
    have cb1 : CB[1]? = some (Value.int .u32 (b.vni : Int)) := by rw [HB.out]; rfl
    refine ⟨.pointer (some ⟨w.heap.size, 1, none⟩), (.int .u32 (a.vni : Int)), .pointer (some ⟨w.heap.size + 1, 1, none⟩), (.int .u32 (b.vni : Int)), ?_, ?_, ?_, ?_, .inl ⟨?_, q1, rfl⟩⟩
    · intro ρ h; simp only [execOp, h]; go_simp
    · intro ρ h; simp only [execOp, h]; go_simp
    · intro ρ h; simp only [execOp, h]; go_simp
    · intro ρ h; simp only [execOp, h]; go_simp
    · intro ρ h1 h2; simp only [execOp, h1, h2]; go_simp
  rintro a1 _ hinv ⟨q2, rfl⟩
  refine chain_test (i := 12) (s1 := 18) (s2 := 19) (s3 := 20) (s4 := 21) (s5 := 22) (s6 := 23) (d' := 24) (e' := decide (a.key = b.key)) (R := (fun w' => ∃ q, w' = (((w.alloc (.cells CA 34)).alloc (.cells CB 34)).drewN q))) hinv rfl rfl rfl rfl rfl rfl rfl rfl rfl rfl rfl rfl rfl rfl rfl rfl rfl (.inl rfl) ?_ ⟨q2, rfl⟩ ?_
  ·
    have ca2 : CA[2]? = some (Value.int .u8 (a.key.b0.toNat : Int)) := by rw [HA.out]; rfl
    have cb2 : CB[2]? = some (Value.int .u8 (b.key.b0.toNat : Int)) := by rw [HB.out]; rfl
    have ca3 : CA[3]? = some (Value.int .u8 (a.key.b1.toNat : Int)) := by rw [HA.out]; rfl
    have cb3 : CB[3]? = some (Value.int .u8 (b.key.b1.toNat : Int)) := by rw [HB.out]; rfl
    have ca4 : CA[4]? = some (Value.int .u8 (a.key.b2.toNat : Int)) := by rw [HA.out]; rfl
    have cb4 : CB[4]? = some (Value.int .u8 (b.key.b2.toNat : Int)) := by rw [HB.out]; rfl
    have ca5 : CA[5]? = some (Value.int .u8 (a.key.b3.toNat : Int)) := by rw [HA.out]; rfl
    have cb5 : CB[5]? = some (Value.int .u8 (b.key.b3.toNat : Int)) := by rw [HB.out]; rfl
    have ca6 : CA[6]? = some (Value.int .u8 (a.key.b4.toNat : Int)) := by rw [HA.out]; rfl
    have cb6 : CB[6]? = some (Value.int .u8 (b.key.b4.toNat : Int)) := by rw [HB.out]; rfl
    have ca7 : CA[7]? = some (Value.int .u8 (a.key.b5.toNat : Int)) := by rw [HA.out]; rfl
    have cb7 : CB[7]? = some (Value.int .u8 (b.key.b5.toNat : Int)) := by rw [HB.out]; rfl
    have ca8 : CA[8]? = some (Value.int .u8 (a.key.b6.toNat : Int)) := by rw [HA.out]; rfl
    have cb8 : CB[8]? = some (Value.int .u8 (b.key.b6.toNat : Int)) := by rw [HB.out]; rfl
    have ca9 : CA[9]? = some (Value.int .u8 (a.key.b7.toNat : Int)) := by rw [HA.out]; rfl
    have cb9 : CB[9]? = some (Value.int .u8 (b.key.b7.toNat : Int)) := by rw [HB.out]; rfl
    refine ⟨.pointer (some ⟨w.heap.size, 2, none⟩), (.agg #[.int .u8 (a.key.b0.toNat : Int), .int .u8 (a.key.b1.toNat : Int), .int .u8 (a.key.b2.toNat : Int), .int .u8 (a.key.b3.toNat : Int), .int .u8 (a.key.b4.toNat : Int), .int .u8 (a.key.b5.toNat : Int), .int .u8 (a.key.b6.toNat : Int), .int .u8 (a.key.b7.toNat : Int)]), .pointer (some ⟨w.heap.size + 1, 2, none⟩), (.agg #[.int .u8 (b.key.b0.toNat : Int), .int .u8 (b.key.b1.toNat : Int), .int .u8 (b.key.b2.toNat : Int), .int .u8 (b.key.b3.toNat : Int), .int .u8 (b.key.b4.toNat : Int), .int .u8 (b.key.b5.toNat : Int), .int .u8 (b.key.b6.toNat : Int), .int .u8 (b.key.b7.toNat : Int)]), ?_, ?_, ?_, ?_, .inl ⟨?_, q2, rfl⟩⟩
    · intro ρ h; simp only [execOp, h]; go_simp
    · intro ρ h; simp only [execOp, h]; go_simp
    · intro ρ h; simp only [execOp, h]; go_simp
    · intro ρ h; simp only [execOp, h]; go_simp
    · intro ρ h1 h2; simp only [execOp, h1, h2]; go_simp
  rintro a2 _ hinv ⟨q3, rfl⟩
  refine chain_test (i := 19) (s1 := 25) (s2 := 26) (s3 := 27) (s4 := 28) (s5 := 29) (s6 := 30) (d' := 31) (e' := ((a.vtep : Int) == b.vtep)) (R := (fun w' => ∃ q, w' = (((w.alloc (.cells CA 34)).alloc (.cells CB 34)).drewN q))) hinv rfl rfl rfl rfl rfl rfl rfl rfl rfl rfl rfl rfl rfl rfl rfl rfl rfl (.inl rfl) ?_ ⟨q3, rfl⟩ ?_
  ·
    have ca10 : CA[10]? = some (Value.int .u32 (a.vtep : Int)) := by rw [HA.out]; rfl
    have cb10 : CB[10]? = some (Value.int .u32 (b.vtep : Int)) := by rw [HB.out]; rfl
    refine ⟨.pointer (some ⟨w.heap.size, 10, none⟩), (.int .u32 (a.vtep : Int)), .pointer (some ⟨w.heap.size + 1, 10, none⟩), (.int .u32 (b.vtep : Int)), ?_, ?_, ?_, ?_, .inl ⟨?_, q3, rfl⟩⟩
    · intro ρ h; simp only [execOp, h]; go_simp
    · intro ρ h; simp only [execOp, h]; go_simp
    · intro ρ h; simp only [execOp, h]; go_simp
    · intro ρ h; simp only [execOp, h]; go_simp
    · intro ρ h1 h2; simp only [execOp, h1, h2]; go_simp
  rintro a3 _ hinv ⟨q4, rfl⟩
  refine chain_test (i := 26) (s1 := 32) (s2 := 33) (s3 := 34) (s4 := 35) (s5 := 36) (s6 := 37) (d' := 38) (e' := decide (a.vmac = b.vmac)) (R := (fun w' => ∃ q, w' = (((w.alloc (.cells CA 34)).alloc (.cells CB 34)).drewN q))) hinv rfl rfl rfl rfl rfl rfl rfl rfl rfl rfl rfl rfl rfl rfl rfl rfl rfl (.inl rfl) ?_ ⟨q4, rfl⟩ ?_
  ·
    have ca11 : CA[11]? = some (Value.int .u8 (a.vmac.b0.toNat : Int)) := by rw [HA.out]; rfl
    have cb11 : CB[11]? = some (Value.int .u8 (b.vmac.b0.toNat : Int)) := by rw [HB.out]; rfl
    have ca12 : CA[12]? = some (Value.int .u8 (a.vmac.b1.toNat : Int)) := by rw [HA.out]; rfl
    have cb12 : CB[12]? = some (Value.int .u8 (b.vmac.b1.toNat : Int)) := by rw [HB.out]; rfl
    have ca13 : CA[13]? = some (Value.int .u8 (a.vmac.b2.toNat : Int)) := by rw [HA.out]; rfl
    have cb13 : CB[13]? = some (Value.int .u8 (b.vmac.b2.toNat : Int)) := by rw [HB.out]; rfl
    have ca14 : CA[14]? = some (Value.int .u8 (a.vmac.b3.toNat : Int)) := by rw [HA.out]; rfl
    have cb14 : CB[14]? = some (Value.int .u8 (b.vmac.b3.toNat : Int)) := by rw [HB.out]; rfl
    have ca15 : CA[15]? = some (Value.int .u8 (a.vmac.b4.toNat : Int)) := by rw [HA.out]; rfl
    have cb15 : CB[15]? = some (Value.int .u8 (b.vmac.b4.toNat : Int)) := by rw [HB.out]; rfl
    have ca16 : CA[16]? = some (Value.int .u8 (a.vmac.b5.toNat : Int)) := by rw [HA.out]; rfl
    have cb16 : CB[16]? = some (Value.int .u8 (b.vmac.b5.toNat : Int)) := by rw [HB.out]; rfl
    refine ⟨.pointer (some ⟨w.heap.size, 11, none⟩), (.agg #[.int .u8 (a.vmac.b0.toNat : Int), .int .u8 (a.vmac.b1.toNat : Int), .int .u8 (a.vmac.b2.toNat : Int), .int .u8 (a.vmac.b3.toNat : Int), .int .u8 (a.vmac.b4.toNat : Int), .int .u8 (a.vmac.b5.toNat : Int)]), .pointer (some ⟨w.heap.size + 1, 11, none⟩), (.agg #[.int .u8 (b.vmac.b0.toNat : Int), .int .u8 (b.vmac.b1.toNat : Int), .int .u8 (b.vmac.b2.toNat : Int), .int .u8 (b.vmac.b3.toNat : Int), .int .u8 (b.vmac.b4.toNat : Int), .int .u8 (b.vmac.b5.toNat : Int)]), ?_, ?_, ?_, ?_, .inl ⟨?_, q4, rfl⟩⟩
    · intro ρ h; simp only [execOp, h]; go_simp
    · intro ρ h; simp only [execOp, h]; go_simp
    · intro ρ h; simp only [execOp, h]; go_simp
    · intro ρ h; simp only [execOp, h]; go_simp
    · intro ρ h1 h2; simp only [execOp, h1, h2]; go_simp
  rintro a4 _ hinv ⟨q5, rfl⟩
  refine chain_test (i := 33) (s1 := 39) (s2 := 40) (s3 := 41) (s4 := 42) (s5 := 43) (s6 := 44) (d' := 45) (e' := decide (a.host = b.host)) (R := (fun w' => ∃ q, w' = (((w.alloc (.cells CA 34)).alloc (.cells CB 34)).drewN q))) hinv rfl rfl rfl rfl rfl rfl rfl rfl rfl rfl rfl rfl rfl rfl rfl rfl rfl (.inl rfl) ?_ ⟨q5, rfl⟩ ?_
  ·
    have ca17 : CA[17]? = some (Value.int .u8 (a.host.b0.toNat : Int)) := by rw [HA.out]; rfl
    have cb17 : CB[17]? = some (Value.int .u8 (b.host.b0.toNat : Int)) := by rw [HB.out]; rfl
    have ca18 : CA[18]? = some (Value.int .u8 (a.host.b1.toNat : Int)) := by rw [HA.out]; rfl
    have cb18 : CB[18]? = some (Value.int .u8 (b.host.b1.toNat : Int)) := by rw [HB.out]; rfl
    have ca19 : CA[19]? = some (Value.int .u8 (a.host.b2.toNat : Int)) := by rw [HA.out]; rfl
    have cb19 : CB[19]? = some (Value.int .u8 (b.host.b2.toNat : Int)) := by rw [HB.out]; rfl
    have ca20 : CA[20]? = some (Value.int .u8 (a.host.b3.toNat : Int)) := by rw [HA.out]; rfl
    have cb20 : CB[20]? = some (Value.int .u8 (b.host.b3.toNat : Int)) := by rw [HB.out]; rfl
    have ca21 : CA[21]? = some (Value.int .u8 (a.host.b4.toNat : Int)) := by rw [HA.out]; rfl
    have cb21 : CB[21]? = some (Value.int .u8 (b.host.b4.toNat : Int)) := by rw [HB.out]; rfl
    have ca22 : CA[22]? = some (Value.int .u8 (a.host.b5.toNat : Int)) := by rw [HA.out]; rfl
    have cb22 : CB[22]? = some (Value.int .u8 (b.host.b5.toNat : Int)) := by rw [HB.out]; rfl
    refine ⟨.pointer (some ⟨w.heap.size, 17, none⟩), (.agg #[.int .u8 (a.host.b0.toNat : Int), .int .u8 (a.host.b1.toNat : Int), .int .u8 (a.host.b2.toNat : Int), .int .u8 (a.host.b3.toNat : Int), .int .u8 (a.host.b4.toNat : Int), .int .u8 (a.host.b5.toNat : Int)]), .pointer (some ⟨w.heap.size + 1, 17, none⟩), (.agg #[.int .u8 (b.host.b0.toNat : Int), .int .u8 (b.host.b1.toNat : Int), .int .u8 (b.host.b2.toNat : Int), .int .u8 (b.host.b3.toNat : Int), .int .u8 (b.host.b4.toNat : Int), .int .u8 (b.host.b5.toNat : Int)]), ?_, ?_, ?_, ?_, .inl ⟨?_, q5, rfl⟩⟩
    · intro ρ h; simp only [execOp, h]; go_simp
    · intro ρ h; simp only [execOp, h]; go_simp
    · intro ρ h; simp only [execOp, h]; go_simp
    · intro ρ h; simp only [execOp, h]; go_simp
    · intro ρ h1 h2; simp only [execOp, h1, h2]; go_simp
  rintro a5 _ hinv ⟨q6, rfl⟩
  refine chain_test (i := 40) (s1 := 46) (s2 := 47) (s3 := 48) (s4 := 49) (s5 := 50) (s6 := 51) (d' := 52) (e' := decide (a.pool = b.pool)) (R := (fun w' => ∃ q, w' = (((w.alloc (.cells CA 34)).alloc (.cells CB 34)).drewN q))) hinv rfl rfl rfl rfl rfl rfl rfl rfl rfl rfl rfl rfl rfl rfl rfl rfl rfl (.inl rfl) ?_ ⟨q6, rfl⟩ ?_
  ·
    have ca23 : CA[23]? = some (Value.slice P a.pool.length p) := by rw [HA.out]; rfl
    have cb23 : CB[23]? = some (Value.slice P' b.pool.length p') := by rw [HB.out]; rfl
    refine ⟨.pointer (some ⟨w.heap.size, 23, none⟩), (.slice P a.pool.length p), .pointer (some ⟨w.heap.size + 1, 23, none⟩), (.slice P' b.pool.length p'), ?_, ?_, ?_, ?_, .inr ⟨42, ?_, (equalU_ok P P' p p' _ _ _ (HH.out.1 q6) (HH.out.2.2.2.1 q6) la).mono (fun e w' ⟨h1, n1, h2⟩ => ⟨h1, q6 + n1, by rw [h2]; exact World.drewN_drewN ..⟩)⟩⟩
    · intro ρ h; simp only [execOp, h]; go_simp
    · intro ρ h; simp only [execOp, h]; go_simp
    · intro ρ h; simp only [execOp, h]; go_simp
    · intro ρ h; simp only [execOp, h]; go_simp
    · intro ρ hf h1 h2; simp only [execOp, resolve, hf]; go_simp
  rintro a6 _ hinv ⟨q7, rfl⟩
  refine chain_test (i := 47) (s1 := 53) (s2 := 54) (s3 := 55) (s4 := 56) (s5 := 57) (s6 := 58) (d' := 59) (e' := ((a.lo : Int) == b.lo)) (R := (fun w' => ∃ q, w' = (((w.alloc (.cells CA 34)).alloc (.cells CB 34)).drewN q))) hinv rfl rfl rfl rfl rfl rfl rfl rfl rfl rfl rfl rfl rfl rfl rfl rfl rfl (.inl rfl) ?_ ⟨q7, rfl⟩ ?_
  ·
    have ca24 : CA[24]? = some (Value.int .u16 (a.lo : Int)) := by rw [HA.out]; rfl
    have cb24 : CB[24]? = some (Value.int .u16 (b.lo : Int)) := by rw [HB.out]; rfl
    refine ⟨.pointer (some ⟨w.heap.size, 24, none⟩), (.int .u16 (a.lo : Int)), .pointer (some ⟨w.heap.size + 1, 24, none⟩), (.int .u16 (b.lo : Int)), ?_, ?_, ?_, ?_, .inl ⟨?_, q7, rfl⟩⟩
    · intro ρ h; simp only [execOp, h]; go_simp
    · intro ρ h; simp only [execOp, h]; go_simp
    · intro ρ h; simp only [execOp, h]; go_simp
    · intro ρ h; simp only [execOp, h]; go_simp
    · intro ρ h1 h2; simp only [execOp, h1, h2]; go_simp
  rintro a7 _ hinv ⟨q8, rfl⟩
  refine chain_test (i := 54) (s1 := 60) (s2 := 61) (s3 := 62) (s4 := 63) (s5 := 64) (s6 := 65) (d' := 66) (e' := ((a.hi : Int) == b.hi)) (R := (fun w' => ∃ q, w' = (((w.alloc (.cells CA 34)).alloc (.cells CB 34)).drewN q))) hinv rfl rfl rfl rfl rfl rfl rfl rfl rfl rfl rfl rfl rfl rfl rfl rfl rfl (.inl rfl) ?_ ⟨q8, rfl⟩ ?_
  ·
    have ca25 : CA[25]? = some (Value.int .u16 (a.hi : Int)) := by rw [HA.out]; rfl
    have cb25 : CB[25]? = some (Value.int .u16 (b.hi : Int)) := by rw [HB.out]; rfl
    refine ⟨.pointer (some ⟨w.heap.size, 25, none⟩), (.int .u16 (a.hi : Int)), .pointer (some ⟨w.heap.size + 1, 25, none⟩), (.int .u16 (b.hi : Int)), ?_, ?_, ?_, ?_, .inl ⟨?_, q8, rfl⟩⟩
    · intro ρ h; simp only [execOp, h]; go_simp
    · intro ρ h; simp only [execOp, h]; go_simp
    · intro ρ h; simp only [execOp, h]; go_simp
    · intro ρ h; simp only [execOp, h]; go_simp
    · intro ρ h1 h2; simp only [execOp, h1, h2]; go_simp
  rintro a8 _ hinv ⟨q9, rfl⟩
  refine chain_test (i := 61) (s1 := 67) (s2 := 68) (s3 := 69) (s4 := 70) (s5 := 71) (s6 := 72) (d' := 73) (e' := (a.filter == b.filter)) (R := (fun w' => ∃ q, w' = (((w.alloc (.cells CA 34)).alloc (.cells CB 34)).drewN q))) hinv rfl rfl rfl rfl rfl rfl rfl rfl rfl rfl rfl rfl rfl rfl rfl rfl rfl (.inl rfl) ?_ ⟨q9, rfl⟩ ?_
  ·
    have ca26 : CA[26]? = some (Value.int .i64 a.filter) := by rw [HA.out]; rfl
    have cb26 : CB[26]? = some (Value.int .i64 b.filter) := by rw [HB.out]; rfl
    refine ⟨.pointer (some ⟨w.heap.size, 26, none⟩), (.int .i64 a.filter), .pointer (some ⟨w.heap.size + 1, 26, none⟩), (.int .i64 b.filter), ?_, ?_, ?_, ?_, .inl ⟨?_, q9, rfl⟩⟩
    · intro ρ h; simp only [execOp, h]; go_simp
    · intro ρ h; simp only [execOp, h]; go_simp
    · intro ρ h; simp only [execOp, h]; go_simp
    · intro ρ h; simp only [execOp, h]; go_simp
    · intro ρ h1 h2; simp only [execOp, h1, h2]; go_simp
  rintro a9 _ hinv ⟨q10, rfl⟩
  refine chain_test (i := 68) (s1 := 74) (s2 := 75) (s3 := 76) (s4 := 77) (s5 := 78) (s6 := 79) (d' := 80) (e' := decide (a.statics = b.statics)) (R := (fun w' => ∃ q, w' = (((w.alloc (.cells CA 34)).alloc (.cells CB 34)).drewN q))) hinv rfl rfl rfl rfl rfl rfl rfl rfl rfl rfl rfl rfl rfl rfl rfl rfl rfl (.inl rfl) ?_ ⟨q10, rfl⟩ ?_
  ·
    have ca27 : CA[27]? = some (Value.slice Q a.statics.length q) := by rw [HA.out]; rfl
    have cb27 : CB[27]? = some (Value.slice Q' b.statics.length q') := by rw [HB.out]; rfl
    refine ⟨.pointer (some ⟨w.heap.size, 27, none⟩), (.slice Q a.statics.length q), .pointer (some ⟨w.heap.size + 1, 27, none⟩), (.slice Q' b.statics.length q'), ?_, ?_, ?_, ?_, .inr ⟨43, ?_, (equalP_ok Q Q' q q' _ _ _ (HH.out.2.1 q10) (HH.out.2.2.2.2.1 q10) ls).mono (fun e w' ⟨h1, n1, h2⟩ => ⟨h1, q10 + n1, by rw [h2]; exact World.drewN_drewN ..⟩)⟩⟩
    · intro ρ h; simp only [execOp, h]; go_simp
    · intro ρ h; simp only [execOp, h]; go_simp
    · intro ρ h; simp only [execOp, h]; go_simp
    · intro ρ h; simp only [execOp, h]; go_simp
    · intro ρ hf h1 h2; simp only [execOp, resolve, hf]; go_simp
  rintro a10 _ hinv ⟨q11, rfl⟩
  refine chain_test (i := 75) (s1 := 81) (s2 := 82) (s3 := 83) (s4 := 84) (s5 := 85) (s6 := 86) (d' := 87) (e' := decide (a.twices = b.twices)) (R := (fun w' => ∃ q, w' = (((w.alloc (.cells CA 34)).alloc (.cells CB 34)).drewN q))) hinv rfl rfl rfl rfl rfl rfl rfl rfl rfl rfl rfl rfl rfl rfl rfl rfl rfl (.inl rfl) ?_ ⟨q11, rfl⟩ ?_
  ·
    have ca28 : CA[28]? = some (Value.slice R a.twices.length r) := by rw [HA.out]; rfl
    have cb28 : CB[28]? = some (Value.slice R' b.twices.length r') := by rw [HB.out]; rfl
    refine ⟨.pointer (some ⟨w.heap.size, 28, none⟩), (.slice R a.twices.length r), .pointer (some ⟨w.heap.size + 1, 28, none⟩), (.slice R' b.twices.length r'), ?_, ?_, ?_, ?_, .inr ⟨43, ?_, (equalP_ok R R' r r' _ _ _ (HH.out.2.2.1 q11) (HH.out.2.2.2.2.2.1 q11) lt).mono (fun e w' ⟨h1, n1, h2⟩ => ⟨h1, q11 + n1, by rw [h2]; exact World.drewN_drewN ..⟩)⟩⟩
    · intro ρ h; simp only [execOp, h]; go_simp
    · intro ρ h; simp only [execOp, h]; go_simp
    · intro ρ h; simp only [execOp, h]; go_simp
    · intro ρ h; simp only [execOp, h]; go_simp
    · intro ρ hf h1 h2; simp only [execOp, resolve, hf]; go_simp
  rintro a11 _ hinv ⟨q12, rfl⟩
  refine chain_test (i := 82) (s1 := 88) (s2 := 89) (s3 := 90) (s4 := 91) (s5 := 92) (s6 := 93) (d' := 94) (e' := (a.sess == b.sess)) (R := (fun w' => ∃ q, w' = (((w.alloc (.cells CA 34)).alloc (.cells CB 34)).drewN q))) hinv rfl rfl rfl rfl rfl rfl rfl rfl rfl rfl rfl rfl rfl rfl rfl rfl rfl (.inl rfl) ?_ ⟨q12, rfl⟩ ?_
  ·
    have ca29 : CA[29]? = some (Value.int .i64 a.sess) := by rw [HA.out]; rfl
    have cb29 : CB[29]? = some (Value.int .i64 b.sess) := by rw [HB.out]; rfl
    refine ⟨.pointer (some ⟨w.heap.size, 29, none⟩), (.int .i64 a.sess), .pointer (some ⟨w.heap.size + 1, 29, none⟩), (.int .i64 b.sess), ?_, ?_, ?_, ?_, .inl ⟨?_, q12, rfl⟩⟩
    · intro ρ h; simp only [execOp, h]; go_simp
    · intro ρ h; simp only [execOp, h]; go_simp
    · intro ρ h; simp only [execOp, h]; go_simp
    · intro ρ h; simp only [execOp, h]; go_simp
    · intro ρ h1 h2; simp only [execOp, h1, h2]; go_simp
  rintro a12 _ hinv ⟨q13, rfl⟩
  refine chain_test (i := 89) (s1 := 95) (s2 := 96) (s3 := 97) (s4 := 98) (s5 := 99) (s6 := 100) (d' := 101) (e' := (a.queue == b.queue)) (R := (fun w' => ∃ q, w' = (((w.alloc (.cells CA 34)).alloc (.cells CB 34)).drewN q))) hinv rfl rfl rfl rfl rfl rfl rfl rfl rfl rfl rfl rfl rfl rfl rfl rfl rfl (.inl rfl) ?_ ⟨q13, rfl⟩ ?_
  ·
    have ca30 : CA[30]? = some (Value.int .i64 a.queue) := by rw [HA.out]; rfl
    have cb30 : CB[30]? = some (Value.int .i64 b.queue) := by rw [HB.out]; rfl
    refine ⟨.pointer (some ⟨w.heap.size, 30, none⟩), (.int .i64 a.queue), .pointer (some ⟨w.heap.size + 1, 30, none⟩), (.int .i64 b.queue), ?_, ?_, ?_, ?_, .inl ⟨?_, q13, rfl⟩⟩
    · intro ρ h; simp only [execOp, h]; go_simp
    · intro ρ h; simp only [execOp, h]; go_simp
    · intro ρ h; simp only [execOp, h]; go_simp
    · intro ρ h; simp only [execOp, h]; go_simp
    · intro ρ h1 h2; simp only [execOp, h1, h2]; go_simp
  rintro a13 _ hinv ⟨q14, rfl⟩
  refine chain_test (i := 96) (s1 := 102) (s2 := 103) (s3 := 104) (s4 := 105) (s5 := 106) (s6 := 107) (d' := 108) (e' := ((a.rate : Int) == b.rate)) (R := (fun w' => ∃ q, w' = (((w.alloc (.cells CA 34)).alloc (.cells CB 34)).drewN q))) hinv rfl rfl rfl rfl rfl rfl rfl rfl rfl rfl rfl rfl rfl rfl rfl rfl rfl (.inl rfl) ?_ ⟨q14, rfl⟩ ?_
  ·
    have ca31 : CA[31]? = some (Value.int .u32 (a.rate : Int)) := by rw [HA.out]; rfl
    have cb31 : CB[31]? = some (Value.int .u32 (b.rate : Int)) := by rw [HB.out]; rfl
    refine ⟨.pointer (some ⟨w.heap.size, 31, none⟩), (.int .u32 (a.rate : Int)), .pointer (some ⟨w.heap.size + 1, 31, none⟩), (.int .u32 (b.rate : Int)), ?_, ?_, ?_, ?_, .inl ⟨?_, q14, rfl⟩⟩
    · intro ρ h; simp only [execOp, h]; go_simp
    · intro ρ h; simp only [execOp, h]; go_simp
    · intro ρ h; simp only [execOp, h]; go_simp
    · intro ρ h; simp only [execOp, h]; go_simp
    · intro ρ h1 h2; simp only [execOp, h1, h2]; go_simp
  rintro a14 _ hinv ⟨q15, rfl⟩
  refine chain_test (i := 103) (s1 := 109) (s2 := 110) (s3 := 111) (s4 := 112) (s5 := 113) (s6 := 114) (d' := 4) (e' := ((a.burst : Int) == b.burst)) (R := (fun w' => ∃ q, w' = (((w.alloc (.cells CA 34)).alloc (.cells CB 34)).drewN q))) hinv rfl rfl rfl rfl rfl rfl rfl rfl rfl rfl rfl rfl rfl rfl rfl rfl rfl (.inr rfl) ?_ ⟨q15, rfl⟩ ?_
  ·
    have ca32 : CA[32]? = some (Value.int .u32 (a.burst : Int)) := by rw [HA.out]; rfl
    have cb32 : CB[32]? = some (Value.int .u32 (b.burst : Int)) := by rw [HB.out]; rfl
    refine ⟨.pointer (some ⟨w.heap.size, 32, none⟩), (.int .u32 (a.burst : Int)), .pointer (some ⟨w.heap.size + 1, 32, none⟩), (.int .u32 (b.burst : Int)), ?_, ?_, ?_, ?_, .inl ⟨?_, q15, rfl⟩⟩
    · intro ρ h; simp only [execOp, h]; go_simp
    · intro ρ h; simp only [execOp, h]; go_simp
    · intro ρ h; simp only [execOp, h]; go_simp
    · intro ρ h; simp only [execOp, h]; go_simp
    · intro ρ h1 h2; simp only [execOp, h1, h2]; go_simp
  rintro ⟨tm, df⟩ _ hinv ⟨q16, rfl⟩
  refine wpList_nil ?_
  have hres := hinv.tb
  obtain rfl : df = [] := hinv.defers
  clear hinv
  go_wp2
  go_ret
  refine ⟨?_, HM.out _⟩
  have : tm.getD 4 undef = .bool (decide (a = b)) := by
    rw [Array.getD_eq_getD_getElem?, hres, ← ten_beq a b]
    rfl
  rw [← this]
set_option maxRecDepth 100000 in
set_option maxHeartbeats 2000000 in
theorem tenant_ok {S S' : Nat → Prop} {w : World} (a b : Ten) (va vb : Value) (ha : TenV S w a va) (hb : TenV S' w b vb) (la : a.pool.length ≤ 9223372036854775807) (ls : a.statics.length ≤ 9223372036854775807) (lt : a.twices.length ≤ 9223372036854775807) :
    Calls Try.prog 15 #[va, vb] w fun e w' => e = .returned (.bool (decide (a = b))) ∧ Mod No w w' := by
  obtain ⟨P, p, Q, q, R, r, rfl, h1, h2, h3⟩ := ha.val
  obtain ⟨P', p', Q', q', R', r', rfl, h1', h2', h3'⟩ := hb.val
  obtain ⟨CA, hCA⟩ : ∃ CA, CA = a.cells (.slice P a.pool.length p) (.slice Q a.statics.length q) (.slice R a.twices.length r) := ⟨_, rfl⟩
  obtain ⟨CB, hCB⟩ : ∃ CB, CB = b.cells (.slice P' b.pool.length p') (.slice Q' b.statics.length q') (.slice R' b.twices.length r') := ⟨_, rfl⟩
  have bA := box_ten CA (by rw [hCA]; rfl)
  have bB := box_ten CB (by rw [hCB]; rfl)
  rw [← hCA, ← hCB]
  have hm2 : ∀ q, Mod No w (((w.alloc (.cells CA 34)).alloc (.cells CB 34)).drewN q) := fun q => Mod.drewN (Mod.alloc (Mod.alloc (Mod.refl _ _) _) _) q
  have k1 : ∀ q, RowAt (fun b => S b ∧ b < w.heap.size) (((w.alloc (.cells CA 34)).alloc (.cells CB 34)).drewN q) P (numCells a.pool) := fun q => (h1.mono (fun b hb hs => ⟨hs, hb⟩)).keeps ((hm2 q).keeps (fun _ _ _ f => f))
  have k2 : ∀ q, RowAt (fun b => S b ∧ b < w.heap.size) (((w.alloc (.cells CA 34)).alloc (.cells CB 34)).drewN q) Q (prCells a.statics) := fun q => (h2.mono (fun b hb hs => ⟨hs, hb⟩)).keeps ((hm2 q).keeps (fun _ _ _ f => f))
  have k3 : ∀ q, RowAt (fun b => S b ∧ b < w.heap.size) (((w.alloc (.cells CA 34)).alloc (.cells CB 34)).drewN q) R (prCells a.twices) := fun q => (h3.mono (fun b hb hs => ⟨hs, hb⟩)).keeps ((hm2 q).keeps (fun _ _ _ f => f))
  have k1' : ∀ q, RowAt (fun b => S' b ∧ b < w.heap.size) (((w.alloc (.cells CA 34)).alloc (.cells CB 34)).drewN q) P' (numCells b.pool) := fun q => (h1'.mono (fun b hb hs => ⟨hs, hb⟩)).keeps ((hm2 q).keeps (fun _ _ _ f => f))
  have k2' : ∀ q, RowAt (fun b => S' b ∧ b < w.heap.size) (((w.alloc (.cells CA 34)).alloc (.cells CB 34)).drewN q) Q' (prCells b.statics) := fun q => (h2'.mono (fun b hb hs => ⟨hs, hb⟩)).keeps ((hm2 q).keeps (fun _ _ _ f => f))
  have k3' : ∀ q, RowAt (fun b => S' b ∧ b < w.heap.size) (((w.alloc (.cells CA 34)).alloc (.cells CB 34)).drewN q) R' (prCells b.twices) := fun q => (h3'.mono (fun b hb hs => ⟨hs, hb⟩)).keeps ((hm2 q).keeps (fun _ _ _ f => f))
  have hcells : ∀ q, (∀ j, (((w.alloc (.cells CA 34)).alloc (.cells CB 34)).drewN q).cell? ⟨w.heap.size, j, none⟩ = CA[j]?) ∧ (∀ j, (((w.alloc (.cells CA 34)).alloc (.cells CB 34)).drewN q).cell? ⟨w.heap.size + 1, j, none⟩ = CB[j]?) := fun q =>
    ⟨fun j => blk_cell (at20 w (.cells CA 34) (.cells CB 34)) j, fun j => blk_cell (at21 w (.cells CA 34) (.cells CB 34)) j⟩
  have HH := Lib.hid (And.intro k1 (And.intro k2 (And.intro k3 (And.intro k1' (And.intro k2' (And.intro k3' hcells))))))
  have HM := Lib.hid hm2
  have HA := Lib.hid hCA
  have HB := Lib.hid hCB
  clear ha hb h1 h2 h3 h1' h2' h3' k1 k2 k3 k1' k2' k3' hcells hm2 hCA hCB
  go_enter Try.func15, Try.ntmps15
  go_upto_region 1 with fail
  refine wp_region_lit ?_
  refine chain_first (n := 115) (pA := .pointer (some ⟨w.heap.size, 0, none⟩)) (pB := .pointer (some ⟨w.heap.size + 1, 0, none⟩)) (s1 := 5) (s2 := 6) (s3 := 7) (s4 := 8) (s5 := 9) (d' := 10) (e' := decide (a.name = b.name)) (R := (fun w' => ∃ q, w' = (((w.alloc (.cells CA 34)).alloc (.cells CB 34)).drewN q))) rfl rfl rfl rfl rfl rfl rfl rfl rfl rfl rfl rfl rfl rfl rfl rfl rfl rfl ?_ ?_
  ·
    have ca0 : CA[0]? = some (Value.string (str a.name)) := by rw [HA.out]; rfl
    have cb0 : CB[0]? = some (Value.string (str b.name)) := by rw [HB.out]; rfl
    refine ⟨.pointer (some ⟨w.heap.size, 0, none⟩), (.string (str a.name)), .pointer (some ⟨w.heap.size + 1, 0, none⟩), (.string (str b.name)), ?_, ?_, ?_, ?_, .inl ⟨?_, 0, rfl⟩⟩
    · intro ρ h; simp only [execOp, h]; go_simp
    · intro ρ h; simp only [execOp, h]; go_simp
    · intro ρ h; simp only [execOp, h]; go_simp
    · intro ρ h; simp only [execOp, h]; go_simp
    · intro ρ h1 h2; simp only [execOp, h1, h2]; go_simp; exact str_beq _ _
  rintro a0 _ hinv ⟨q1, rfl⟩
  refine chain_test (i := 5) (s1 := 11) (s2 := 12) (s3 := 13) (s4 := 14) (s5 := 15) (s6 := 16) (d' := 17) (e' := ((a.vni : Int) == b.vni)) (R := (fun w' => ∃ q, w' = (((w.alloc (.cells CA 34)).alloc (.cells CB 34)).drewN q))) hinv rfl rfl rfl rfl rfl rfl rfl rfl rfl rfl rfl rfl rfl rfl rfl rfl rfl (.inl rfl) ?_ ⟨q1, rfl⟩ ?_
  ·
    have ca1 : CA[1]? = some (Value.int .u32 (a.vni : Int)) := by rw [HA.out]; rfl
    have cb1 : CB[1]? = some (Value.int .u32 (b.vni : Int)) := by rw [HB.out]; rfl
    refine ⟨.pointer (some ⟨w.heap.size, 1, none⟩), (.int .u32 (a.vni : Int)), .pointer (some ⟨w.heap.size + 1, 1, none⟩), (.int .u32 (b.vni : Int)), ?_, ?_, ?_, ?_, .inl ⟨?_, q1, rfl⟩⟩
    · intro ρ h; simp only [execOp, h]; go_simp
    · intro ρ h; simp only [execOp, h]; go_simp
    · intro ρ h; simp only [execOp, h]; go_simp
    · intro ρ h; simp only [execOp, h]; go_simp
    · intro ρ h1 h2; simp only [execOp, h1, h2]; go_simp
  rintro a1 _ hinv ⟨q2, rfl⟩
  refine chain_test (i := 12) (s1 := 18) (s2 := 19) (s3 := 20) (s4 := 21) (s5 := 22) (s6 := 23) (d' := 24) (e' := decide (a.key = b.key)) (R := (fun w' => ∃ q, w' = (((w.alloc (.cells CA 34)).alloc (.cells CB 34)).drewN q))) hinv rfl rfl rfl rfl rfl rfl rfl rfl rfl rfl rfl rfl rfl rfl rfl rfl rfl (.inl rfl) ?_ ⟨q2, rfl⟩ ?_
  ·
    have ca2 : CA[2]? = some (Value.int .u8 (a.key.b0.toNat : Int)) := by rw [HA.out]; rfl
    have cb2 : CB[2]? = some (Value.int .u8 (b.key.b0.toNat : Int)) := by rw [HB.out]; rfl
    have ca3 : CA[3]? = some (Value.int .u8 (a.key.b1.toNat : Int)) := by rw [HA.out]; rfl
    have cb3 : CB[3]? = some (Value.int .u8 (b.key.b1.toNat : Int)) := by rw [HB.out]; rfl
    have ca4 : CA[4]? = some (Value.int .u8 (a.key.b2.toNat : Int)) := by rw [HA.out]; rfl
    have cb4 : CB[4]? = some (Value.int .u8 (b.key.b2.toNat : Int)) := by rw [HB.out]; rfl
    have ca5 : CA[5]? = some (Value.int .u8 (a.key.b3.toNat : Int)) := by rw [HA.out]; rfl
    have cb5 : CB[5]? = some (Value.int .u8 (b.key.b3.toNat : Int)) := by rw [HB.out]; rfl
    have ca6 : CA[6]? = some (Value.int .u8 (a.key.b4.toNat : Int)) := by rw [HA.out]; rfl
    have cb6 : CB[6]? = some (Value.int .u8 (b.key.b4.toNat : Int)) := by rw [HB.out]; rfl
    have ca7 : CA[7]? = some (Value.int .u8 (a.key.b5.toNat : Int)) := by rw [HA.out]; rfl
    have cb7 : CB[7]? = some (Value.int .u8 (b.key.b5.toNat : Int)) := by rw [HB.out]; rfl
    have ca8 : CA[8]? = some (Value.int .u8 (a.key.b6.toNat : Int)) := by rw [HA.out]; rfl
    have cb8 : CB[8]? = some (Value.int .u8 (b.key.b6.toNat : Int)) := by rw [HB.out]; rfl
    have ca9 : CA[9]? = some (Value.int .u8 (a.key.b7.toNat : Int)) := by rw [HA.out]; rfl
    have cb9 : CB[9]? = some (Value.int .u8 (b.key.b7.toNat : Int)) := by rw [HB.out]; rfl
    refine ⟨.pointer (some ⟨w.heap.size, 2, none⟩), (.agg #[.int .u8 (a.key.b0.toNat : Int), .int .u8 (a.key.b1.toNat : Int), .int .u8 (a.key.b2.toNat : Int), .int .u8 (a.key.b3.toNat : Int), .int .u8 (a.key.b4.toNat : Int), .int .u8 (a.key.b5.toNat : Int), .int .u8 (a.key.b6.toNat : Int), .int .u8 (a.key.b7.toNat : Int)]), .pointer (some ⟨w.heap.size + 1, 2, none⟩), (.agg #[.int .u8 (b.key.b0.toNat : Int), .int .u8 (b.key.b1.toNat : Int), .int .u8 (b.key.b2.toNat : Int), .int .u8 (b.key.b3.toNat : Int), .int .u8 (b.key.b4.toNat : Int), .int .u8 (b.key.b5.toNat : Int), .int .u8 (b.key.b6.toNat : Int), .int .u8 (b.key.b7.toNat : Int)]), ?_, ?_, ?_, ?_, .inl ⟨?_, q2, rfl⟩⟩
    · intro ρ h; simp only [execOp, h]; go_simp
    · intro ρ h; simp only [execOp, h]; go_simp
    · intro ρ h; simp only [execOp, h]; go_simp
    · intro ρ h; simp only [execOp, h]; go_simp
    · intro ρ h1 h2; simp only [execOp, h1, h2]; go_simp
  rintro a2 _ hinv ⟨q3, rfl⟩
  refine chain_test (i := 19) (s1 := 25) (s2 := 26) (s3 := 27) (s4 := 28) (s5 := 29) (s6 := 30) (d' := 31) (e' := ((a.vtep : Int) == b.vtep)) (R := (fun w' => ∃ q, w' = (((w.alloc (.cells CA 34)).alloc (.cells CB 34)).drewN q))) hinv rfl rfl rfl rfl rfl rfl rfl rfl rfl rfl rfl rfl rfl rfl rfl rfl rfl (.inl rfl) ?_ ⟨q3, rfl⟩ ?_
  ·
    have ca10 : CA[10]? = some (Value.int .u32 (a.vtep : Int)) := by rw [HA.out]; rfl
    have cb10 : CB[10]? = some (Value.int .u32 (b.vtep : Int)) := by rw [HB.out]; rfl
    refine ⟨.pointer (some ⟨w.heap.size, 10, none⟩), (.int .u32 (a.vtep : Int)), .pointer (some ⟨w.heap.size + 1, 10, none⟩), (.int .u32 (b.vtep : Int)), ?_, ?_, ?_, ?_, .inl ⟨?_, q3, rfl⟩⟩
    · intro ρ h; simp only [execOp, h]; go_simp
    · intro ρ h; simp only [execOp, h]; go_simp
    · intro ρ h; simp only [execOp, h]; go_simp
    · intro ρ h; simp only [execOp, h]; go_simp
    · intro ρ h1 h2; simp only [execOp, h1, h2]; go_simp
  rintro a3 _ hinv ⟨q4, rfl⟩
  refine chain_test (i := 26) (s1 := 32) (s2 := 33) (s3 := 34) (s4 := 35) (s5 := 36) (s6 := 37) (d' := 38) (e' := decide (a.vmac = b.vmac)) (R := (fun w' => ∃ q, w' = (((w.alloc (.cells CA 34)).alloc (.cells CB 34)).drewN q))) hinv rfl rfl rfl rfl rfl rfl rfl rfl rfl rfl rfl rfl rfl rfl rfl rfl rfl (.inl rfl) ?_ ⟨q4, rfl⟩ ?_
  ·
    have ca11 : CA[11]? = some (Value.int .u8 (a.vmac.b0.toNat : Int)) := by rw [HA.out]; rfl
    have cb11 : CB[11]? = some (Value.int .u8 (b.vmac.b0.toNat : Int)) := by rw [HB.out]; rfl
    have ca12 : CA[12]? = some (Value.int .u8 (a.vmac.b1.toNat : Int)) := by rw [HA.out]; rfl
    have cb12 : CB[12]? = some (Value.int .u8 (b.vmac.b1.toNat : Int)) := by rw [HB.out]; rfl
    have ca13 : CA[13]? = some (Value.int .u8 (a.vmac.b2.toNat : Int)) := by rw [HA.out]; rfl
    have cb13 : CB[13]? = some (Value.int .u8 (b.vmac.b2.toNat : Int)) := by rw [HB.out]; rfl
    have ca14 : CA[14]? = some (Value.int .u8 (a.vmac.b3.toNat : Int)) := by rw [HA.out]; rfl
    have cb14 : CB[14]? = some (Value.int .u8 (b.vmac.b3.toNat : Int)) := by rw [HB.out]; rfl
    have ca15 : CA[15]? = some (Value.int .u8 (a.vmac.b4.toNat : Int)) := by rw [HA.out]; rfl
    have cb15 : CB[15]? = some (Value.int .u8 (b.vmac.b4.toNat : Int)) := by rw [HB.out]; rfl
    have ca16 : CA[16]? = some (Value.int .u8 (a.vmac.b5.toNat : Int)) := by rw [HA.out]; rfl
    have cb16 : CB[16]? = some (Value.int .u8 (b.vmac.b5.toNat : Int)) := by rw [HB.out]; rfl
    refine ⟨.pointer (some ⟨w.heap.size, 11, none⟩), (.agg #[.int .u8 (a.vmac.b0.toNat : Int), .int .u8 (a.vmac.b1.toNat : Int), .int .u8 (a.vmac.b2.toNat : Int), .int .u8 (a.vmac.b3.toNat : Int), .int .u8 (a.vmac.b4.toNat : Int), .int .u8 (a.vmac.b5.toNat : Int)]), .pointer (some ⟨w.heap.size + 1, 11, none⟩), (.agg #[.int .u8 (b.vmac.b0.toNat : Int), .int .u8 (b.vmac.b1.toNat : Int), .int .u8 (b.vmac.b2.toNat : Int), .int .u8 (b.vmac.b3.toNat : Int), .int .u8 (b.vmac.b4.toNat : Int), .int .u8 (b.vmac.b5.toNat : Int)]), ?_, ?_, ?_, ?_, .inl ⟨?_, q4, rfl⟩⟩
    · intro ρ h; simp only [execOp, h]; go_simp
    · intro ρ h; simp only [execOp, h]; go_simp
    · intro ρ h; simp only [execOp, h]; go_simp
    · intro ρ h; simp only [execOp, h]; go_simp
    · intro ρ h1 h2; simp only [execOp, h1, h2]; go_simp
  rintro a4 _ hinv ⟨q5, rfl⟩
  refine chain_test (i := 33) (s1 := 39) (s2 := 40) (s3 := 41) (s4 := 42) (s5 := 43) (s6 := 44) (d' := 45) (e' := decide (a.host = b.host)) (R := (fun w' => ∃ q, w' = (((w.alloc (.cells CA 34)).alloc (.cells CB 34)).drewN q))) hinv rfl rfl rfl rfl rfl rfl rfl rfl rfl rfl rfl rfl rfl rfl rfl rfl rfl (.inl rfl) ?_ ⟨q5, rfl⟩ ?_
  ·
    have ca17 : CA[17]? = some (Value.int .u8 (a.host.b0.toNat : Int)) := by rw [HA.out]; rfl
    have cb17 : CB[17]? = some (Value.int .u8 (b.host.b0.toNat : Int)) := by rw [HB.out]; rfl
    have ca18 : CA[18]? = some (Value.int .u8 (a.host.b1.toNat : Int)) := by rw [HA.out]; rfl
    have cb18 : CB[18]? = some (Value.int .u8 (b.host.b1.toNat : Int)) := by rw [HB.out]; rfl
    have ca19 : CA[19]? = some (Value.int .u8 (a.host.b2.toNat : Int)) := by rw [HA.out]; rfl
    have cb19 : CB[19]? = some (Value.int .u8 (b.host.b2.toNat : Int)) := by rw [HB.out]; rfl
    have ca20 : CA[20]? = some (Value.int .u8 (a.host.b3.toNat : Int)) := by rw [HA.out]; rfl
    have cb20 : CB[20]? = some (Value.int .u8 (b.host.b3.toNat : Int)) := by rw [HB.out]; rfl
    have ca21 : CA[21]? = some (Value.int .u8 (a.host.b4.toNat : Int)) := by rw [HA.out]; rfl
    have cb21 : CB[21]? = some (Value.int .u8 (b.host.b4.toNat : Int)) := by rw [HB.out]; rfl
    have ca22 : CA[22]? = some (Value.int .u8 (a.host.b5.toNat : Int)) := by rw [HA.out]; rfl
    have cb22 : CB[22]? = some (Value.int .u8 (b.host.b5.toNat : Int)) := by rw [HB.out]; rfl
    refine ⟨.pointer (some ⟨w.heap.size, 17, none⟩), (.agg #[.int .u8 (a.host.b0.toNat : Int), .int .u8 (a.host.b1.toNat : Int), .int .u8 (a.host.b2.toNat : Int), .int .u8 (a.host.b3.toNat : Int), .int .u8 (a.host.b4.toNat : Int), .int .u8 (a.host.b5.toNat : Int)]), .pointer (some ⟨w.heap.size + 1, 17, none⟩), (.agg #[.int .u8 (b.host.b0.toNat : Int), .int .u8 (b.host.b1.toNat : Int), .int .u8 (b.host.b2.toNat : Int), .int .u8 (b.host.b3.toNat : Int), .int .u8 (b.host.b4.toNat : Int), .int .u8 (b.host.b5.toNat : Int)]), ?_, ?_, ?_, ?_, .inl ⟨?_, q5, rfl⟩⟩
    · intro ρ h; simp only [execOp, h]; go_simp
    · intro ρ h; simp only [execOp, h]; go_simp
    · intro ρ h; simp only [execOp, h]; go_simp
    · intro ρ h; simp only [execOp, h]; go_simp
    · intro ρ h1 h2; simp only [execOp, h1, h2]; go_simp
  rintro a5 _ hinv ⟨q6, rfl⟩
  refine chain_test (i := 40) (s1 := 46) (s2 := 47) (s3 := 48) (s4 := 49) (s5 := 50) (s6 := 51) (d' := 52) (e' := decide (a.pool = b.pool)) (R := (fun w' => ∃ q, w' = (((w.alloc (.cells CA 34)).alloc (.cells CB 34)).drewN q))) hinv rfl rfl rfl rfl rfl rfl rfl rfl rfl rfl rfl rfl rfl rfl rfl rfl rfl (.inl rfl) ?_ ⟨q6, rfl⟩ ?_
  ·
    have ca23 : CA[23]? = some (Value.slice P a.pool.length p) := by rw [HA.out]; rfl
    have cb23 : CB[23]? = some (Value.slice P' b.pool.length p') := by rw [HB.out]; rfl
    refine ⟨.pointer (some ⟨w.heap.size, 23, none⟩), (.slice P a.pool.length p), .pointer (some ⟨w.heap.size + 1, 23, none⟩), (.slice P' b.pool.length p'), ?_, ?_, ?_, ?_, .inr ⟨26, ?_, (nums_ok P P' p p' _ _ _ (HH.out.1 q6) (HH.out.2.2.2.1 q6) la).mono (fun e w' ⟨h1, n1, h2⟩ => ⟨h1, q6 + n1, by rw [h2]; exact World.drewN_drewN ..⟩)⟩⟩
    · intro ρ h; simp only [execOp, h]; go_simp
    · intro ρ h; simp only [execOp, h]; go_simp
    · intro ρ h; simp only [execOp, h]; go_simp
    · intro ρ h; simp only [execOp, h]; go_simp
    · intro ρ hf h1 h2; simp only [execOp, resolve, hf]; go_simp
  rintro a6 _ hinv ⟨q7, rfl⟩
  refine chain_test (i := 47) (s1 := 53) (s2 := 54) (s3 := 55) (s4 := 56) (s5 := 57) (s6 := 58) (d' := 59) (e' := ((a.lo : Int) == b.lo)) (R := (fun w' => ∃ q, w' = (((w.alloc (.cells CA 34)).alloc (.cells CB 34)).drewN q))) hinv rfl rfl rfl rfl rfl rfl rfl rfl rfl rfl rfl rfl rfl rfl rfl rfl rfl (.inl rfl) ?_ ⟨q7, rfl⟩ ?_
  ·
    have ca24 : CA[24]? = some (Value.int .u16 (a.lo : Int)) := by rw [HA.out]; rfl
    have cb24 : CB[24]? = some (Value.int .u16 (b.lo : Int)) := by rw [HB.out]; rfl
    refine ⟨.pointer (some ⟨w.heap.size, 24, none⟩), (.int .u16 (a.lo : Int)), .pointer (some ⟨w.heap.size + 1, 24, none⟩), (.int .u16 (b.lo : Int)), ?_, ?_, ?_, ?_, .inl ⟨?_, q7, rfl⟩⟩
    · intro ρ h; simp only [execOp, h]; go_simp
    · intro ρ h; simp only [execOp, h]; go_simp
    · intro ρ h; simp only [execOp, h]; go_simp
    · intro ρ h; simp only [execOp, h]; go_simp
    · intro ρ h1 h2; simp only [execOp, h1, h2]; go_simp
  rintro a7 _ hinv ⟨q8, rfl⟩
  refine chain_test (i := 54) (s1 := 60) (s2 := 61) (s3 := 62) (s4 := 63) (s5 := 64) (s6 := 65) (d' := 66) (e' := ((a.hi : Int) == b.hi)) (R := (fun w' => ∃ q, w' = (((w.alloc (.cells CA 34)).alloc (.cells CB 34)).drewN q))) hinv rfl rfl rfl rfl rfl rfl rfl rfl rfl rfl rfl rfl rfl rfl rfl rfl rfl (.inl rfl) ?_ ⟨q8, rfl⟩ ?_
  ·
    have ca25 : CA[25]? = some (Value.int .u16 (a.hi : Int)) := by rw [HA.out]; rfl
    have cb25 : CB[25]? = some (Value.int .u16 (b.hi : Int)) := by rw [HB.out]; rfl
    refine ⟨.pointer (some ⟨w.heap.size, 25, none⟩), (.int .u16 (a.hi : Int)), .pointer (some ⟨w.heap.size + 1, 25, none⟩), (.int .u16 (b.hi : Int)), ?_, ?_, ?_, ?_, .inl ⟨?_, q8, rfl⟩⟩
    · intro ρ h; simp only [execOp, h]; go_simp
    · intro ρ h; simp only [execOp, h]; go_simp
    · intro ρ h; simp only [execOp, h]; go_simp
    · intro ρ h; simp only [execOp, h]; go_simp
    · intro ρ h1 h2; simp only [execOp, h1, h2]; go_simp
  rintro a8 _ hinv ⟨q9, rfl⟩
  refine chain_test (i := 61) (s1 := 67) (s2 := 68) (s3 := 69) (s4 := 70) (s5 := 71) (s6 := 72) (d' := 73) (e' := (a.filter == b.filter)) (R := (fun w' => ∃ q, w' = (((w.alloc (.cells CA 34)).alloc (.cells CB 34)).drewN q))) hinv rfl rfl rfl rfl rfl rfl rfl rfl rfl rfl rfl rfl rfl rfl rfl rfl rfl (.inl rfl) ?_ ⟨q9, rfl⟩ ?_
  ·
    have ca26 : CA[26]? = some (Value.int .i64 a.filter) := by rw [HA.out]; rfl
    have cb26 : CB[26]? = some (Value.int .i64 b.filter) := by rw [HB.out]; rfl
    refine ⟨.pointer (some ⟨w.heap.size, 26, none⟩), (.int .i64 a.filter), .pointer (some ⟨w.heap.size + 1, 26, none⟩), (.int .i64 b.filter), ?_, ?_, ?_, ?_, .inl ⟨?_, q9, rfl⟩⟩
    · intro ρ h; simp only [execOp, h]; go_simp
    · intro ρ h; simp only [execOp, h]; go_simp
    · intro ρ h; simp only [execOp, h]; go_simp
    · intro ρ h; simp only [execOp, h]; go_simp
    · intro ρ h1 h2; simp only [execOp, h1, h2]; go_simp
  rintro a9 _ hinv ⟨q10, rfl⟩
  refine chain_test (i := 68) (s1 := 74) (s2 := 75) (s3 := 76) (s4 := 77) (s5 := 78) (s6 := 79) (d' := 80) (e' := decide (a.statics = b.statics)) (R := (fun w' => ∃ q, w' = (((w.alloc (.cells CA 34)).alloc (.cells CB 34)).drewN q))) hinv rfl rfl rfl rfl rfl rfl rfl rfl rfl rfl rfl rfl rfl rfl rfl rfl rfl (.inl rfl) ?_ ⟨q10, rfl⟩ ?_
  ·
    have ca27 : CA[27]? = some (Value.slice Q a.statics.length q) := by rw [HA.out]; rfl
    have cb27 : CB[27]? = some (Value.slice Q' b.statics.length q') := by rw [HB.out]; rfl
    refine ⟨.pointer (some ⟨w.heap.size, 27, none⟩), (.slice Q a.statics.length q), .pointer (some ⟨w.heap.size + 1, 27, none⟩), (.slice Q' b.statics.length q'), ?_, ?_, ?_, ?_, .inr ⟨27, ?_, (pairs_ok Q Q' q q' _ _ _ (HH.out.2.1 q10) (HH.out.2.2.2.2.1 q10) ls).mono (fun e w' ⟨h1, n1, h2⟩ => ⟨h1, q10 + n1, by rw [h2]; exact World.drewN_drewN ..⟩)⟩⟩
    · intro ρ h; simp only [execOp, h]; go_simp
    · intro ρ h; simp only [execOp, h]; go_simp
    · intro ρ h; simp only [execOp, h]; go_simp
    · intro ρ h; simp only [execOp, h]; go_simp
    · intro ρ hf h1 h2; simp only [execOp, resolve, hf]; go_simp
  rintro a10 _ hinv ⟨q11, rfl⟩
  refine chain_test (i := 75) (s1 := 81) (s2 := 82) (s3 := 83) (s4 := 84) (s5 := 85) (s6 := 86) (d' := 87) (e' := decide (a.twices = b.twices)) (R := (fun w' => ∃ q, w' = (((w.alloc (.cells CA 34)).alloc (.cells CB 34)).drewN q))) hinv rfl rfl rfl rfl rfl rfl rfl rfl rfl rfl rfl rfl rfl rfl rfl rfl rfl (.inl rfl) ?_ ⟨q11, rfl⟩ ?_
  ·
    have ca28 : CA[28]? = some (Value.slice R a.twices.length r) := by rw [HA.out]; rfl
    have cb28 : CB[28]? = some (Value.slice R' b.twices.length r') := by rw [HB.out]; rfl
    refine ⟨.pointer (some ⟨w.heap.size, 28, none⟩), (.slice R a.twices.length r), .pointer (some ⟨w.heap.size + 1, 28, none⟩), (.slice R' b.twices.length r'), ?_, ?_, ?_, ?_, .inr ⟨27, ?_, (pairs_ok R R' r r' _ _ _ (HH.out.2.2.1 q11) (HH.out.2.2.2.2.2.1 q11) lt).mono (fun e w' ⟨h1, n1, h2⟩ => ⟨h1, q11 + n1, by rw [h2]; exact World.drewN_drewN ..⟩)⟩⟩
    · intro ρ h; simp only [execOp, h]; go_simp
    · intro ρ h; simp only [execOp, h]; go_simp
    · intro ρ h; simp only [execOp, h]; go_simp
    · intro ρ h; simp only [execOp, h]; go_simp
    · intro ρ hf h1 h2; simp only [execOp, resolve, hf]; go_simp
  rintro a11 _ hinv ⟨q12, rfl⟩
  refine chain_test (i := 82) (s1 := 88) (s2 := 89) (s3 := 90) (s4 := 91) (s5 := 92) (s6 := 93) (d' := 94) (e' := (a.sess == b.sess)) (R := (fun w' => ∃ q, w' = (((w.alloc (.cells CA 34)).alloc (.cells CB 34)).drewN q))) hinv rfl rfl rfl rfl rfl rfl rfl rfl rfl rfl rfl rfl rfl rfl rfl rfl rfl (.inl rfl) ?_ ⟨q12, rfl⟩ ?_
  ·
    have ca29 : CA[29]? = some (Value.int .i64 a.sess) := by rw [HA.out]; rfl
    have cb29 : CB[29]? = some (Value.int .i64 b.sess) := by rw [HB.out]; rfl
    refine ⟨.pointer (some ⟨w.heap.size, 29, none⟩), (.int .i64 a.sess), .pointer (some ⟨w.heap.size + 1, 29, none⟩), (.int .i64 b.sess), ?_, ?_, ?_, ?_, .inl ⟨?_, q12, rfl⟩⟩
    · intro ρ h; simp only [execOp, h]; go_simp
    · intro ρ h; simp only [execOp, h]; go_simp
    · intro ρ h; simp only [execOp, h]; go_simp
    · intro ρ h; simp only [execOp, h]; go_simp
    · intro ρ h1 h2; simp only [execOp, h1, h2]; go_simp
  rintro a12 _ hinv ⟨q13, rfl⟩
  refine chain_test (i := 89) (s1 := 95) (s2 := 96) (s3 := 97) (s4 := 98) (s5 := 99) (s6 := 100) (d' := 101) (e' := (a.queue == b.queue)) (R := (fun w' => ∃ q, w' = (((w.alloc (.cells CA 34)).alloc (.cells CB 34)).drewN q))) hinv rfl rfl rfl rfl rfl rfl rfl rfl rfl rfl rfl rfl rfl rfl rfl rfl rfl (.inl rfl) ?_ ⟨q13, rfl⟩ ?_
  ·
    have ca30 : CA[30]? = some (Value.int .i64 a.queue) := by rw [HA.out]; rfl
    have cb30 : CB[30]? = some (Value.int .i64 b.queue) := by rw [HB.out]; rfl
    refine ⟨.pointer (some ⟨w.heap.size, 30, none⟩), (.int .i64 a.queue), .pointer (some ⟨w.heap.size + 1, 30, none⟩), (.int .i64 b.queue), ?_, ?_, ?_, ?_, .inl ⟨?_, q13, rfl⟩⟩
    · intro ρ h; simp only [execOp, h]; go_simp
    · intro ρ h; simp only [execOp, h]; go_simp
    · intro ρ h; simp only [execOp, h]; go_simp
    · intro ρ h; simp only [execOp, h]; go_simp
    · intro ρ h1 h2; simp only [execOp, h1, h2]; go_simp
  rintro a13 _ hinv ⟨q14, rfl⟩
  refine chain_test (i := 96) (s1 := 102) (s2 := 103) (s3 := 104) (s4 := 105) (s5 := 106) (s6 := 107) (d' := 108) (e' := ((a.rate : Int) == b.rate)) (R := (fun w' => ∃ q, w' = (((w.alloc (.cells CA 34)).alloc (.cells CB 34)).drewN q))) hinv rfl rfl rfl rfl rfl rfl rfl rfl rfl rfl rfl rfl rfl rfl rfl rfl rfl (.inl rfl) ?_ ⟨q14, rfl⟩ ?_
  ·
    have ca31 : CA[31]? = some (Value.int .u32 (a.rate : Int)) := by rw [HA.out]; rfl
    have cb31 : CB[31]? = some (Value.int .u32 (b.rate : Int)) := by rw [HB.out]; rfl
    refine ⟨.pointer (some ⟨w.heap.size, 31, none⟩), (.int .u32 (a.rate : Int)), .pointer (some ⟨w.heap.size + 1, 31, none⟩), (.int .u32 (b.rate : Int)), ?_, ?_, ?_, ?_, .inl ⟨?_, q14, rfl⟩⟩
    · intro ρ h; simp only [execOp, h]; go_simp
    · intro ρ h; simp only [execOp, h]; go_simp
    · intro ρ h; simp only [execOp, h]; go_simp
    · intro ρ h; simp only [execOp, h]; go_simp
    · intro ρ h1 h2; simp only [execOp, h1, h2]; go_simp
  rintro a14 _ hinv ⟨q15, rfl⟩
  refine chain_test (i := 103) (s1 := 109) (s2 := 110) (s3 := 111) (s4 := 112) (s5 := 113) (s6 := 114) (d' := 4) (e' := ((a.burst : Int) == b.burst)) (R := (fun w' => ∃ q, w' = (((w.alloc (.cells CA 34)).alloc (.cells CB 34)).drewN q))) hinv rfl rfl rfl rfl rfl rfl rfl rfl rfl rfl rfl rfl rfl rfl rfl rfl rfl (.inr rfl) ?_ ⟨q15, rfl⟩ ?_
  ·
    have ca32 : CA[32]? = some (Value.int .u32 (a.burst : Int)) := by rw [HA.out]; rfl
    have cb32 : CB[32]? = some (Value.int .u32 (b.burst : Int)) := by rw [HB.out]; rfl
    refine ⟨.pointer (some ⟨w.heap.size, 32, none⟩), (.int .u32 (a.burst : Int)), .pointer (some ⟨w.heap.size + 1, 32, none⟩), (.int .u32 (b.burst : Int)), ?_, ?_, ?_, ?_, .inl ⟨?_, q15, rfl⟩⟩
    · intro ρ h; simp only [execOp, h]; go_simp
    · intro ρ h; simp only [execOp, h]; go_simp
    · intro ρ h; simp only [execOp, h]; go_simp
    · intro ρ h; simp only [execOp, h]; go_simp
    · intro ρ h1 h2; simp only [execOp, h1, h2]; go_simp
  rintro ⟨tm, df⟩ _ hinv ⟨q16, rfl⟩
  refine wpList_nil ?_
  have hres := hinv.tb
  obtain rfl : df = [] := hinv.defers
  clear hinv
  go_wp2
  go_ret
  refine ⟨?_, HM.out _⟩
  have : tm.getD 4 undef = .bool (decide (a = b)) := by
    rw [Array.getD_eq_getD_getElem?, hres, ← ten_beq a b]
    rfl
  rw [← this]
end

section
attribute [local go_sem] stPair gtPair gtK8 gtM6
attribute [local go_sem high] neqPair eqK8 eqM6
open Go.RowKit
set_option linter.unusedVariables false
/-- A name's bytes behind its length. -/
def nameB' (l : List UInt8) : List UInt8 := be 1 (min l.length 255) ++ l.take 255
end

section
attribute [local go_sem] stPair gtPair gtK8 gtM6
attribute [local go_sem high] neqPair eqK8 eqM6
open Go.RowKit
set_option linter.unusedVariables false
def nums4 (l : List Nat) : List UInt8 := l.flatMap (be 4)
def prs8 (l : List Pr) : List UInt8 := l.flatMap fun p => be 4 p.a ++ be 4 p.b
end

section
attribute [local go_sem] stPair gtPair gtK8 gtM6
attribute [local go_sem high] neqPair eqK8 eqM6
open Go.RowKit
set_option linter.unusedVariables false
def light (t : Ten) : Bool := decide (t.name.length ≤ 300) && decide (t.pool.length ≤ 300) && decide (t.statics.length ≤ 300) && decide (t.twices.length ≤ 300)
set_option maxRecDepth 100000 in
theorem light_ok {S : Nat → Prop} {w : World} (a : Ten) (va : Value) (ha : TenV S w a va) :
    Calls Try.prog 20 #[va] w fun e w' => e = .returned (.bool (light a)) ∧ Mod No w w' := by
  obtain ⟨P, p, Q, q, R, r, rfl, h1, h2, h3⟩ := ha.val
  obtain ⟨CA, hCA⟩ : ∃ CA, CA = a.cells (.slice P a.pool.length p) (.slice Q a.statics.length q) (.slice R a.twices.length r) := ⟨_, rfl⟩
  have bA := box_ten CA (by rw [hCA]; rfl)
  rw [← hCA]
  have c0 : CA[0]? = some (Value.string (str a.name)) := by rw [hCA]; rfl
  have c1 : CA[23]? = some (Value.slice P a.pool.length p) := by rw [hCA]; rfl
  have c2 : CA[27]? = some (Value.slice Q a.statics.length q) := by rw [hCA]; rfl
  have c3 : CA[28]? = some (Value.slice R a.twices.length r) := by rw [hCA]; rfl
  have hs : (str a.name).size = a.name.length := by simp [str, ByteArray.size]
  have l0 : decide ((a.name.length : Int) ≤ 300) = decide (a.name.length ≤ 300) := by rw [decide_eq_decide]; omega
  have l1 : decide ((a.pool.length : Int) ≤ 300) = decide (a.pool.length ≤ 300) := by rw [decide_eq_decide]; omega
  have l2 : decide ((a.statics.length : Int) ≤ 300) = decide (a.statics.length ≤ 300) := by rw [decide_eq_decide]; omega
  have l3 : decide ((a.twices.length : Int) ≤ 300) = decide (a.twices.length ≤ 300) := by rw [decide_eq_decide]; omega
  have hl : light a = (decide (a.name.length ≤ 300) && decide (a.pool.length ≤ 300) && decide (a.statics.length ≤ 300) && decide (a.twices.length ≤ 300)) := rfl
  rw [hl]
  generalize decide (a.name.length ≤ 300) = b0 at l0 ⊢
  generalize decide (a.pool.length ≤ 300) = b1 at l1 ⊢
  generalize decide (a.statics.length ≤ 300) = b2 at l2 ⊢
  generalize decide (a.twices.length ≤ 300) = b3 at l3 ⊢
  clear ha h1 h2 h3 hCA hl
  cases b0
  · go_enter Try.func20, Try.ntmps20
    go_wp2
    go_ret
    exact ⟨by simp, (Mod.refl _ _).alloc _⟩
  cases b1
  · go_enter Try.func20, Try.ntmps20
    go_wp2
    go_ret
    exact ⟨by simp, (Mod.refl _ _).alloc _⟩
  cases b2
  · go_enter Try.func20, Try.ntmps20
    go_wp2
    go_ret
    exact ⟨by simp, (Mod.refl _ _).alloc _⟩
  cases b3
  all_goals
    go_enter Try.func20, Try.ntmps20
    go_wp2
    go_ret
    exact ⟨by simp, (Mod.refl _ _).alloc _⟩
end

section
attribute [local go_sem] stPair gtPair gtK8 gtM6
attribute [local go_sem high] neqPair eqK8 eqM6
open Go.RowKit
set_option linter.unusedVariables false
/-- A change's cells. -/
def chgCells (put : Bool) (name : List UInt8) (t : Ten) (vp vs vt : Value) : Array Value := #[.bool put, .string (str name)] ++ t.cells vp vs vt
def zChg : Array Value := chgCells false [] .zero (.slice none 0 0) (.slice none 0 0) (.slice none 0 0)
theorem results_cell_tmp {P : Program} {fn : Func} {p q : Tmp} {ty : TypeId} (h : fn.results = #[.cell p ty, .tmp q]) (tmps : Array Value) (w : World) (g : Nat) (t : TypeId) (cs : Array Value) (fr : Nat × Nat) (d : TypeDesc)
    (hp : tmps.getD p undef = .pointer (some ⟨g, 0, none⟩)) (hg : w.heap[g]? = some (.cells cs t fr))
    (hu : P.underlying ty = some d) (hd : (match d with | .struct _ | .array _ _ => true | _ => false) = true) (hi : (P.info? ty).map (·.size) = some cs.size) :
    (results fn tmps).run P w = .ok (.tuple #[.agg cs, tmps.getD q undef]) w := by
  have hp' : tmps[p]?.getD undef = .pointer (some ⟨g, 0, none⟩) := by simpa using hp
  simp [results, h, hp', asAddr, run_loadVar_row w g t ty cs fr d hg hu hd hi]
theorem chgSize : (Try.prog.info? 47).map (·.size) = some 35 := by kernel_rfl
set_option maxRecDepth 100000 in
theorem alloc_chg : ∀ W, (Instr.alloc 47 true (.tuple #[])).run Try.prog W = .ok (.pointer (some ⟨W.heap.size, 0, none⟩)) (W.alloc (.cells zChg 47)) := fun W => by kernel_rfl
theorem store_chg {W : World} {b : Nat} {old CA : Array Value} (h : W.heap[b]? = some (.cells old 47 (0, 0))) (ho : old.size = 35) (hc : CA.size = 35) (h1 : CA.all (·.oneCell') = true) :
    (Instr.storeAt 47 (.pointer (some ⟨b, 0, none⟩)) (.agg CA)).run Try.prog W = .ok () (W.setRow b CA) := by
  simp only [Instr.storeAt, Instr.sureAddr, Sem.run_bind, Sem.run_pure, Result.andThen_ok]
  exact run_storeVar_row W b _ _ old CA h (by rw [chgSize, hc]) (by rw [ho, hc]) h1
section
variable {P : Program} {ops : Array Oper} {Q : Exit → Act → World → Prop}
end
end

section
attribute [local go_sem] stPair gtPair gtK8 gtM6
attribute [local go_sem high] neqPair eqK8 eqM6
open Go.RowKit
set_option linter.unusedVariables false
theorem run_store_func {P : Program} {w : World} {a : Addr} {m : Mode} (f : Fn) (ts cs : Array Value) : (store a (.func f ts cs) m).run P w = stored P w a (.func f ts cs) m := run_store P w a _ m rfl
attribute [local go_sem] run_store_func
end

section
attribute [local go_sem] stPair gtPair gtK8 gtM6 run_store_func
attribute [local go_sem high] neqPair eqK8 eqM6
open Go.RowKit
set_option linter.unusedVariables false
/-- A number as its low 64 bits. -/
def u64n (z : Int) : Nat := (IntKind.u64.wrap z).toNat
/-- A tenant's bytes, field by field. -/
def wfields (t : Ten) : List (List UInt8) :=
  [nameB' t.name, be 4 t.vni, t.key.l, be 4 t.vtep, t.vmac.l, t.host.l, be 2 t.lo, be 2 t.hi, be 1 (u64n t.filter), be 2 (u64n t.sess), be 2 (u64n t.queue), be 4 t.rate, be 4 t.burst,
    be 1 (min t.pool.length 255), be 1 (min t.statics.length 255), be 1 (min t.twices.length 255), nums4 (t.pool.take 255), prs8 (t.statics.take 255), prs8 (t.twices.take 255)]
/-- Each number lies in its type. -/
structure Ten.Ok (t : Ten) : Prop where
  vni : t.vni < 4294967296
  vtep : t.vtep < 4294967296
  lo : t.lo < 65536
  hi : t.hi < 65536
  rate : t.rate < 4294967296
  burst : t.burst < 4294967296
  pool : ∀ x ∈ t.pool, x < 4294967296
  statics : ∀ x ∈ t.statics, x.a < 4294967296 ∧ x.b < 4294967296
  twices : ∀ x ∈ t.twices, x.a < 4294967296 ∧ x.b < 4294967296
section
variable {w0 : World} {n C base T o : Nat} {v0 : Value} {pre post : List Value} {tt : TypeId} {vp vs vt : Value} {t t1 : Ten} {np ns nt : Nat} {X : List UInt8} {v : Value} {w : World}
end
section
variable {w0 : World} {n C base T o : Nat} {v0 : Value} {pre post : List Value} {tt : TypeId} {vp vs vt : Value} {t : Ten} {L : List UInt8} {v : Value} {w : World}
end
end

section
attribute [local go_sem] stPair gtPair gtK8 gtM6 run_store_func
attribute [local go_sem high] neqPair eqK8 eqM6
open Go.RowKit
set_option linter.unusedVariables false
abbrev St := Nat × Bool
end

section
attribute [local go_sem] stPair gtPair gtK8 gtM6 run_store_func
attribute [local go_sem high] neqPair eqK8 eqM6
open Go.RowKit
set_option linter.unusedVariables false
def M6.of (l : List UInt8) : M6 := ⟨l.getD 0 0, l.getD 1 0, l.getD 2 0, l.getD 3 0, l.getD 4 0, l.getD 5 0⟩
def K8.of (l : List UInt8) : K8 := ⟨l.getD 0 0, l.getD 1 0, l.getD 2 0, l.getD 3 0, l.getD 4 0, l.getD 5 0, l.getD 6 0, l.getD 7 0⟩
/-- A tenant that is being read: its fields so far, the three counts, the reader's state. -/
structure RS where
  t : Ten
  np : Nat
  ns : Nat
  nt : Nat
  s : St
end

section
attribute [local go_sem] stPair gtPair gtK8 gtM6 run_store_func
attribute [local go_sem high] neqPair eqK8 eqM6
open Go.RowKit
set_option linter.unusedVariables false
set_option linter.unusedSimpArgs false
/-- Where field k begins. -/
def pos (L : List UInt8) (t : Ten) (k : Nat) : St := ((L ++ ((wfields t).take k).flatten).length, false)
end

section
attribute [local go_sem] stPair gtPair gtK8 gtM6
attribute [local go_sem high] neqPair eqK8 eqM6
open Go.RowKit
set_option linter.unusedVariables false
theorem tenSize : (Try.prog.info? 34).map (·.size) = some 33 := by kernel_rfl
theorem load_ten {W : World} {b : Nat} {CA : Array Value} (h : W.heap[b]? = some (.cells CA 34 (0, 0))) (hc : CA.size = 33) :
    (Instr.loadAt 34 (.pointer (some ⟨b, 0, none⟩))).run Try.prog W = .ok (.agg CA) W := by
  simp only [Instr.loadAt, Instr.sureAddr, Sem.run_bind, Sem.run_pure, Result.andThen_ok]
  exact run_loadVar_row W b _ _ CA (0, 0) _ h Try.underlying34 rfl (by rw [tenSize, hc])
/-- A tenant loaded: under a name of its own, which the walk does not lay open. -/
def tenLoad (v : Value) : Sem Value := Instr.loadAt 34 v
theorem load_fold (v : Value) : Instr.loadAt 34 v = tenLoad v := rfl
attribute [local go_sem ↓] load_fold
theorem tenLoad_run {W : World} {b : Nat} {CA : Array Value} (h : W.heap[b]? = some (.cells CA 34 (0, 0))) (hc : CA.size = 33) : (tenLoad (.pointer (some ⟨b, 0, none⟩))).run Try.prog W = .ok (.agg CA) W := load_ten h hc
end

section
attribute [local go_sem] stPair gtPair gtK8 gtM6 run_store_func
attribute [local go_sem high] neqPair eqK8 eqM6
attribute [local go_sem ↓] load_fold
open Go.RowKit
set_option linter.unusedVariables false
/-- A tenant with its three lists' values. -/
structure TV where
  t : Ten
  vp : Value
  vs : Value
  vt : Value
def TV.cells (x : TV) : List Value := (x.t.cells x.vp x.vs x.vt).toList
theorem TV.len (x : TV) : x.cells.length = 33 := rfl
def tvCells (l : List TV) : List Value := l.flatMap TV.cells
def TV.Rows (S : Nat → Prop) (w : World) (x : TV) : Prop :=
  ∃ P p Q q R r, x.vp = .slice P x.t.pool.length p ∧ x.vs = .slice Q x.t.statics.length q ∧ x.vt = .slice R x.t.twices.length r ∧ RowAt S w P (numCells x.t.pool) ∧ RowAt S w Q (prCells x.t.statics) ∧ RowAt S w R (prCells x.t.twices)
theorem TV.Rows.imp {S S' : Nat → Prop} {w : World} {x : TV} (h : x.Rows S w) (hs : ∀ b, S b → S' b) : x.Rows S' w := by
  obtain ⟨P, p, Q, q, R, r, e1, e2, e3, r1, r2, r3⟩ := h
  exact ⟨P, p, Q, q, R, r, e1, e2, e3, r1.mono (fun b _ => hs b), r2.mono (fun b _ => hs b), r3.mono (fun b _ => hs b)⟩
theorem TV.Rows.lt {S S' : Nat → Prop} {w : World} {x : TV} (h : x.Rows S w) (hs : ∀ b, b < w.heap.size → S b → S' b) : x.Rows S' w := by
  obtain ⟨P, p, Q, q, R, r, e1, e2, e3, r1, r2, r3⟩ := h
  exact ⟨P, p, Q, q, R, r, e1, e2, e3, r1.mono hs, r2.mono hs, r3.mono hs⟩
theorem TV.Rows.keeps {S : Nat → Prop} {w w' : World} {x : TV} (h : x.Rows S w) (hk : Keeps S w w') : x.Rows S w' := by
  obtain ⟨P, p, Q, q, R, r, e1, e2, e3, r1, r2, r3⟩ := h
  exact ⟨P, p, Q, q, R, r, e1, e2, e3, r1.keeps hk, r2.keeps hk, r3.keeps hk⟩
/-! a tenant's operations under names of their own, which the walk does not lay open -/
def tenStore (p v : Value) : Sem Unit := Instr.storeAt 34 p v
theorem store_fold (p v : Value) : Instr.storeAt 34 p v = tenStore p v := rfl
attribute [local go_sem ↓] store_fold
def tenAlloc (v : Value) : Sem Value := Instr.alloc 34 true v
theorem alloc_fold (v : Value) : Instr.alloc 34 true v = tenAlloc v := rfl
attribute [local go_sem ↓] alloc_fold
def zTen : Array Value := Ten.zero.cells (.slice none 0 0) (.slice none 0 0) (.slice none 0 0)
set_option maxRecDepth 100000 in
theorem tenAlloc_run (W : World) : (tenAlloc (.tuple #[])).run Try.prog W = .ok (.pointer (some ⟨W.heap.size, 0, none⟩)) (W.alloc (.cells zTen 34)) := by kernel_rfl
theorem ten_one (t : Ten) (P Q R : Option Addr) (a b c d e f : Nat) : (t.cells (.slice P a b) (.slice Q c d) (.slice R e f)).all (·.oneCell') = true := by
  simp [Ten.cells, Value.oneCell']
theorem TV.one {S : Nat → Prop} {w : World} {x : TV} (h : x.Rows S w) : x.cells.toArray.all (·.oneCell') = true := by
  obtain ⟨P, p, Q, q, R, r, e1, e2, e3, _⟩ := h
  simp only [TV.cells, e1, e2, e3, Array.toArray_toList]
  exact ten_one _ _ _ _ _ _ _ _ _ _
theorem setRow_alloc (W : World) (a b : Array Value) (t : TypeId) : (W.alloc (.cells a t)).setRow W.heap.size b = W.alloc (.cells b t) := by
  unfold World.setRow World.alloc
  congr 1
  apply Array.ext_getElem?
  intro i
  rw [Array.getElem?_modify, Array.getElem?_push, Array.getElem?_push]
  by_cases h : W.heap.size = i
  · subst h; simp
  · have h' : ¬ i = W.heap.size := fun e => h e.symm
    simp [h, h']
theorem tenStore_new (W : World) (CA : Array Value) (hc : CA.size = 33) (h1 : CA.all (·.oneCell') = true) : (tenStore (.pointer (some ⟨W.heap.size, 0, none⟩)) (.agg CA)).run Try.prog (W.alloc (.cells zTen 34)) = .ok () (W.alloc (.cells CA 34)) := by
  simp only [tenStore, Instr.storeAt, Instr.sureAddr, Sem.run_bind, Sem.run_pure, Result.andThen_ok]
  rw [← setRow_alloc W zTen CA]
  exact run_storeVar_row _ _ _ _ zTen CA (at10 W _) (by rw [tenSize, hc]) (by rw [hc]; rfl) h1
theorem tenLoad_mid (W : World) (b o : Nat) (cs : List Value) (hl : cs.length = 33) (h : ∀ j v, cs[j]? = some v → W.cell? ⟨b, o + j, none⟩ = some v) : (tenLoad (.pointer (some ⟨b, o, none⟩))).run Try.prog W = .ok (.agg cs.toArray) W :=
  run_loadAt_mid W b o _ cs _ h Try.underlying34 rfl (by rw [tenSize, hl])
end

section
attribute [local go_sem] stPair gtPair gtK8 gtM6 run_store_func
attribute [local go_sem high] neqPair eqK8 eqM6
attribute [local go_sem ↓] load_fold store_fold alloc_fold
open Go.RowKit
set_option linter.unusedVariables false
theorem infoTen : (Try.prog.info? 34).map (fun i => (i.zero, i.size, i.bytes)) = some (some (.agg zTen), 33, 160) := by kernel_rfl
theorem list33' {α : Type} : ∀ (l : List α), l.length = 33 → ∃ c0 c1 c2 c3 c4 c5 c6 c7 c8 c9 c10 c11 c12 c13 c14 c15 c16 c17 c18 c19 c20 c21 c22 c23 c24 c25 c26 c27 c28 c29 c30 c31 c32, l = [c0, c1, c2, c3, c4, c5, c6, c7, c8, c9, c10, c11, c12, c13, c14, c15, c16, c17, c18, c19, c20, c21, c22, c23, c24, c25, c26, c27, c28, c29, c30, c31, c32]
  | c0 :: c1 :: c2 :: c3 :: c4 :: c5 :: c6 :: c7 :: c8 :: c9 :: c10 :: c11 :: c12 :: c13 :: c14 :: c15 :: c16 :: c17 :: c18 :: c19 :: c20 :: c21 :: c22 :: c23 :: c24 :: c25 :: c26 :: c27 :: c28 :: c29 :: c30 :: c31 :: c32 :: [], _ => ⟨c0, c1, c2, c3, c4, c5, c6, c7, c8, c9, c10, c11, c12, c13, c14, c15, c16, c17, c18, c19, c20, c21, c22, c23, c24, c25, c26, c27, c28, c29, c30, c31, c32, rfl⟩
set_option maxRecDepth 100000 in
theorem ten_build (CA : Array Value) (h : CA.size = 33) : ∀ W, (Instr.buildSlice 22 1 #[(0, .agg CA)]).run Try.prog W = .ok (.slice (some ⟨W.heap.size, 0, none⟩) 1 1) (W.alloc (.cells CA 34)) := by
  intro W
  obtain ⟨ie, hie, hz0, hz1, hz2⟩ := info_parts infoTen
  refine Go.run_buildSlice W _ 34 1 _ CA ie _ Try.underlying22 hie hz0 (by rw [hz1]; decide) (by rw [hz1]; decide) ?_
  rw [hz1]
  obtain ⟨l⟩ := CA
  obtain ⟨c0, c1, c2, c3, c4, c5, c6, c7, c8, c9, c10, c11, c12, c13, c14, c15, c16, c17, c18, c19, c20, c21, c22, c23, c24, c25, c26, c27, c28, c29, c30, c31, c32, rfl⟩ := list33' l (by simpa using h)
  kernel_rfl
end

section
attribute [local go_sem] stPair gtPair gtK8 gtM6 run_store_func
attribute [local go_sem high] neqPair eqK8 eqM6
attribute [local go_sem ↓] load_fold store_fold alloc_fold
open Go.RowKit
set_option linter.unusedVariables false
/-- Settings as data, but for their tenants. -/
structure Con where
  ip : Nat
  mac : M6
  omac : M6
  nmac : M6
  key : K8
  drain : Nat
  deriving DecidableEq, Inhabited
def Con.cells (c : Con) (vt : Value) : Array Value :=
  #[.int .u32 (c.ip : Int), u8v c.mac.b0, u8v c.mac.b1, u8v c.mac.b2, u8v c.mac.b3, u8v c.mac.b4, u8v c.mac.b5,
    u8v c.omac.b0, u8v c.omac.b1, u8v c.omac.b2, u8v c.omac.b3, u8v c.omac.b4, u8v c.omac.b5,
    u8v c.nmac.b0, u8v c.nmac.b1, u8v c.nmac.b2, u8v c.nmac.b3, u8v c.nmac.b4, u8v c.nmac.b5,
    u8v c.key.b0, u8v c.key.b1, u8v c.key.b2, u8v c.key.b3, u8v c.key.b4, u8v c.key.b5, u8v c.key.b6, u8v c.key.b7, .int .u32 (c.drain : Int), vt]
section
variable {w0 : World} {n C base T : Nat} {c : Con} {vt : Value} {l : List TV} {nt : Nat} {X : List UInt8} {v : Value} {w : World}
end
end

section
attribute [local go_sem] stPair gtPair gtK8 gtM6 run_store_func
attribute [local go_sem high] neqPair eqK8 eqM6
attribute [local go_sem ↓] load_fold store_fold alloc_fold
open Go.RowKit
set_option linter.unusedVariables false
theorem take_snoc' {α : Type} {l : List α} {j : Nat} {z : α} (h : l[j]? = some z) : l.take (j + 1) = l.take j ++ [z] := by
  obtain ⟨hlx, ex⟩ := List.getElem?_eq_some_iff.1 h
  rw [List.take_succ_eq_append_getElem hlx, ex]
/-- A value that is so many bytes, its own row above the base. -/
def OwnB (w : World) (base : Nat) (v : Value) (L : List UInt8) : Prop := w.ownsRow base 5 1 v L.length (bcells L)
theorem OwnB.open {w : World} {base : Nat} {v : Value} {L : List UInt8} (h : OwnB w base v L) : ∃ A c, v = .slice A L.length c ∧ L.length ≤ c ∧ RowAt (fun b => base ≤ b) w A (bcells L) := RowAt.of_owns h
theorem OwnB.at {w : World} {base : Nat} {v : Value} {L : List UInt8} (h : OwnB w base v L) (hne : L ≠ []) : ∃ g c, v = .slice (some ⟨g, 0, none⟩) L.length c ∧ base ≤ g ∧ g < w.heap.size ∧ L.length ≤ c ∧ ∀ j u, (bcells L)[j]? = some u → w.cell? ⟨g, j, none⟩ = some u := by
  rcases h.2 with ⟨rfl, h0⟩ | ⟨g, cap, cur, rfl, hb, hg, hn, _⟩
  · exact absurd (List.eq_nil_of_length_eq_zero h0) hne
  · refine ⟨g, cap, rfl, hb, lt_of_block hg, hn, fun j u hj => ?_⟩
    have := h.cells (g := g) rfl j u hj
    rwa [Addr.add_lit, Nat.zero_add] at this
theorem OwnB.mod {F : Nat → Prop} {w w' : World} {base : Nat} {v : Value} {L : List UInt8} (h : OwnB w base v L) (hm : Mod F w w') (hF : ∀ b, base ≤ b → b < w.heap.size → ¬ F b) : OwnB w' base v L :=
  own_mod h hm fun k hk => by
    rcases h.2 with ⟨rfl, _⟩ | ⟨g, cap, cur, rfl, hb, hg, _⟩
    · simp [Value.ownBlock] at hk
    · obtain rfl : g = k := by simpa [Value.ownBlock] using hk
      exact hF g hb (lt_of_block hg)
/-- A change's cells. -/
def cChg (put : Bool) (name : List UInt8) (x : TV) : Array Value := #[.bool put, .string (str name)] ++ x.cells.toArray
theorem cChg_size (put : Bool) (name : List UInt8) (x : TV) : (cChg put name x).size = 35 := by simp [cChg, TV.len]
end

section
attribute [local go_sem] stPair gtPair gtK8 gtM6 run_store_func
attribute [local go_sem high] neqPair eqK8 eqM6
attribute [local go_sem ↓] load_fold store_fold alloc_fold
open Go.ChangeShapes Go.WideShapes Go.ChangeAt Go.RowKit Go.Deep
set_option linter.unusedVariables false
variable {H : Type} {enc : TypeId × Value → H} {w : World}
theorem Ten.wf.ok {t : Ten} (h : t.wf) : t.Ok := ⟨h.vni, h.vtep, h.lo, h.hi, h.rate, h.burst, h.pool, h.statics, h.twices⟩
/-- What an argument's tenant gives. -/
structure TV.Open (w : World) (x : TV) : Prop where
  rows : x.Rows (fun _ => True) w
  wf : x.t.wf
theorem open_tv {fuel : Nat} {cs : List Value} {x : DataW H × List MemPlace} (h : DataW.trod enc Try.prog w 0 (fun _ => true) true fuel 34 cs = some x) : ∃ x : TV, cs = x.cells ∧ x.Open w := by
  obtain ⟨t, ⟨P, p, Q, q, R, r, e, h1, h2, h3⟩, hw⟩ := open_ten h
  refine ⟨⟨t, .slice P t.pool.length p, .slice Q t.statics.length q, .slice R t.twices.length r⟩, ?_, ⟨⟨P, p, Q, q, R, r, rfl, rfl, rfl, h1, h2, h3⟩, hw⟩⟩
  have := congrArg Array.toList (Value.agg.inj e)
  simpa [TV.cells] using this
theorem TV.Open.val {w : World} {x : TV} (h : x.Open w) : TenV (fun _ => True) w x.t (.agg x.cells.toArray) := by
  obtain ⟨P, p, Q, q, R, r, e1, e2, e3, r1, r2, r3⟩ := h.rows
  exact ⟨P, p, Q, q, R, r, by simp [TV.cells, e1, e2, e3], r1, r2, r3⟩
/-- What is read lies in blocks that are there. -/
theorem TV.Open.here {w : World} {x : TV} (h : x.Open w) : x.Rows (· < w.heap.size) w := by
  obtain ⟨P, p, Q, q, R, r, e1, e2, e3, r1, r2, r3⟩ := h.rows
  exact ⟨P, p, Q, q, R, r, e1, e2, e3, r1.mono (fun b hb _ => hb), r2.mono (fun b hb _ => hb), r3.mono (fun b hb _ => hb)⟩
theorem coChg : Try.prog.cellsOf 47 = 35 := by kernel_rfl
theorem coB : Try.prog.cellsOf 4 = 1 := by kernel_rfl
theorem list35 {α : Type} : ∀ (l : List α), l.length = 35 → ∃ a b r, l = a :: b :: r ∧ r.length = 33
  | a :: b :: r, h => ⟨a, b, r, rfl, by simpa using h⟩
theorem open_bool {fuel : Nat} {c : Value} {x : DataW H × List MemPlace} (h : DataW.trod enc Try.prog w 0 (fun _ => true) true fuel 4 [c] = some x) : ∃ b, c = .bool b := by
  obtain ⟨b, e, _⟩ := DataW.trod_bool Try.underlying4 h
  cases e
  exact ⟨b, rfl⟩
set_option maxRecDepth 100000 in
theorem open_chg {fuel : Nat} {cs : List Value} {x : DataW H × List MemPlace} (h : DataW.trod enc Try.prog w 0 (fun _ => true) true fuel 47 cs = some x) :
    ∃ (put : Bool) (name : List UInt8) (x : TV), cs.toArray = cChg put name x ∧ x.Open w := by
  obtain ⟨xs, n, _, _, hl, hlen, hf⟩ := DataW.trod_struct Try.underlying47 h
  rw [coChg] at hl
  obtain ⟨a, b, r, rfl, hr⟩ := list35 cs hl
  have hg : ∀ i, i < 3 → ∃ y, xs[i]? = some y := fun i hi => ⟨_, List.getElem?_eq_getElem (by rw [hlen]; exact hi)⟩
  obtain ⟨y0, hy0⟩ := hg 0 (by decide)
  obtain ⟨y1, hy1⟩ := hg 1 (by decide)
  obtain ⟨y2, hy2⟩ := hg 2 (by decide)
  have t0 : DataW.trod enc Try.prog w 0 (fun _ => true) true n 4 ((List.drop 0 (a :: b :: r)).take (Try.prog.cellsOf 4)) = xs[0]? := hf 0 _ rfl
  have t1 : DataW.trod enc Try.prog w 0 (fun _ => true) true n 9 ((List.drop 1 (a :: b :: r)).take (Try.prog.cellsOf 9)) = xs[1]? := hf 1 _ rfl
  have t2 : DataW.trod enc Try.prog w 0 (fun _ => true) true n 34 ((List.drop 2 (a :: b :: r)).take (Try.prog.cellsOf 34)) = xs[2]? := hf 2 _ rfl
  rw [hy0, coB] at t0
  rw [hy1, coStr] at t1
  rw [hy2, coTen] at t2
  have e2 : (List.drop 2 (a :: b :: r)).take 33 = r := by simp [List.take_of_length_le (Nat.le_of_eq hr)]
  rw [e2] at t2
  obtain ⟨put, hp⟩ := open_bool (c := a) t0
  obtain ⟨s, hs⟩ := trod_str Try.underlying9 t1
  obtain ⟨x, rfl, hx⟩ := open_tv t2
  obtain rfl : b = .string s := by simpa using hs
  subst hp
  refine ⟨put, s.data.toList, x, ?_, hx⟩
  simp [cChg, str_list]
end

section
attribute [local go_sem] stPair gtPair gtK8 gtM6 run_store_func
attribute [local go_sem high] neqPair eqK8 eqM6
attribute [local go_sem ↓] load_fold store_fold alloc_fold
open Go.RowKit
set_option linter.unusedVariables false
def tenSlice (v : Value) : Sem Value := Instr.buildSlice 22 1 #[(0, v)]
theorem slice_op_fold (ρ : Operand → Value) (x : Operand) (dst : Option Tmp) (ty : TypeId) (pos : String) (after : Array Edge) (g : Option (Nat × Bool)) :
    execOp ρ { dst := dst, op := .buildSlice 22 1 #[(0, x)], type := ty, pos := pos, after := after, guard := g } = (do pure (Next.value (← tenSlice (ρ x))) : Sem Next) := by
  show (do pure (Next.value (← Instr.buildSlice 22 1 (#[(0, x)].map fun (i, x) => (i, ρ x)))) : Sem Next) = _
  have hm : (#[((0 : Nat), x)].map fun (i, x) => (i, ρ x)) = #[(0, ρ x)] := by simp
  rw [hm]
  rfl
attribute [local go_sem ↓] slice_op_fold
/-- What becomes of a list of tenants that is read: its values, each with rows of its own. -/
structure TVs (w : World) (base : Nat) (v : Value) (l : List TV) : Prop where
  own : w.ownsRow base 34 33 v l.length (tvCells l)
  rows : ∀ x ∈ l, x.Rows (fun b => base ≤ b ∧ v.ownBlock ≠ some b) w
end

section
attribute [local go_sem] stPair gtPair gtK8 gtM6 run_store_func
attribute [local go_sem high] neqPair eqK8 eqM6
attribute [local go_sem ↓] load_fold store_fold alloc_fold slice_op_fold
open Go.RowKit
set_option linter.unusedVariables false
/-- Settings that are being read. -/
structure CS where
  c : Con
  nt : Nat
  l : List Ten
  s : St
def Con.zero : Con := ⟨0, .zero, .zero, .zero, .zero, 0⟩
section
variable {w0 : World} {n C T : Nat} {A : Option Addr} {c : Nat} {B : List UInt8} {S : Nat → Prop} {r : CS} {vt : Value} {l : List TV} {w : World}
theorem TVs.mod {F : Nat → Prop} {w w' : World} {base : Nat} {v : Value} {l : List TV} (h : TVs w base v l) (hm : Mod F w w') (hF : ∀ b, base ≤ b → b < w.heap.size → ¬ F b) : TVs w' base v l :=
  ⟨own_mod h.own hm fun k hk => by
    rcases h.own.2 with ⟨rfl, _⟩ | ⟨g, cap, cur, rfl, hb, hg, _⟩
    · simp [Value.ownBlock] at hk
    · obtain rfl : g = k := by simpa [Value.ownBlock] using hk
      exact hF g hb (lt_of_block hg), fun x hx => (h.rows x hx).keeps (hm.keeps fun b hb hs => hF b hs.1 hb)⟩
end
section
variable {w0 : World} {n C T : Nat} {A : Option Addr} {c : Nat} {B : List UInt8} {S : Nat → Prop} {s : St} {w : World}
end
end

section
attribute [local go_sem] stPair gtPair gtK8 gtM6 run_store_func
attribute [local go_sem high] neqPair eqK8 eqM6
attribute [local go_sem ↓] load_fold store_fold alloc_fold
open Go.RowKit
set_option linter.unusedVariables false
def chgLoad (v : Value) : Sem Value := Instr.loadAt 47 v
theorem chg_load_fold (v : Value) : Instr.loadAt 47 v = chgLoad v := rfl
attribute [local go_sem ↓] chg_load_fold
theorem light_of {t : Ten} (h : light t = true) : t.name.length ≤ 300 ∧ t.pool.length ≤ 300 ∧ t.statics.length ≤ 300 ∧ t.twices.length ≤ 300 := by
  simp only [light, Bool.and_eq_true, decide_eq_true_eq] at h
  exact ⟨h.1.1.1, h.1.1.2, h.1.2, h.2⟩
/-- All light, and no more than so many? -/
def lights (l : List TV) (most : Nat) : Bool := (l.take most).all (fun x => light x.t) && decide (l.length ≤ most)
theorem lights_of {l : List TV} {most : Nat} (h : lights l most = true) : l.length ≤ most ∧ ∀ x ∈ l, light x.t = true := by
  simp only [lights, Bool.and_eq_true, decide_eq_true_eq, List.all_eq_true] at h
  refine ⟨h.2, fun x hx => h.1 x ?_⟩
  rw [List.take_of_length_le h.2]
  exact hx
set_option maxRecDepth 100000 in
theorem lights_ok {w : World} (l : List TV) (most : Nat) (hm : most ≤ 1000) (hl : l.length ≤ 9223372036854775807) {A : Option Addr} {c : Nat} (hrow : RowAt (fun _ => True) w A (tvCells l)) (ho : ∀ x ∈ l, x.Open w) :
    Calls Try.prog 21 #[.slice A l.length c, .int .i64 most] w fun e w' => e = .returned (.bool (lights l most)) ∧ Mod No w w' := by
  obtain ⟨n, hn⟩ : ∃ n, n = l.length := ⟨_, rfl⟩
  rw [← hn] at hl
  rw [← hn]
  have HN := Lib.hid hn
  have H0 := Lib.hid (And.intro (hrow.mono (S' := fun b => b < w.heap.size) (fun b hb _ => hb)) ho)
  obtain ⟨r, hr⟩ : ∃ r, r = lights l most := ⟨_, rfl⟩
  rw [← hr]
  have HR := Lib.hid hr
  clear hn hrow ho hr
  go_enter Try.func21, Try.ntmps21
  go_wp2
  go_loopw [5] (fun i wr => ∃ j : Nat, i = .int .i64 j ∧ j ≤ n ∧ j ≤ most ∧ ((l.take j).all (fun x => light x.t)) = true ∧ Mod No w wr) (fun i _ => most - (intOf i).toNat)
  case atStart => exact ⟨0, rfl, by omega, by omega, by simp, Mod.refl _ _⟩
  case round =>
    obtain ⟨j, rfl, hj, hjm, hall, hmw⟩ := hrel
    have HA := Lib.hid (And.intro hall hmw)
    clear hall hmw
    by_cases hlt : j < n
    · by_cases hlm : j < most
      · obtain ⟨z, hz⟩ : ∃ z, l[j]? = some z := ⟨_, List.getElem?_eq_getElem (by have := HN.out; omega)⟩
        have hkp : ∀ S, Keeps S w wr := fun S => HA.out.2.keeps (fun _ _ _ f => f)
        obtain ⟨b, o', rfl, _, hblt, hx0⟩ := (H0.out.1.keeps (hkp _)).elem TV.cells 33 TV.len (by omega) hz
        have hld := tenLoad_mid wr b (o' + j * 33) z.cells rfl hx0
        have hzo := H0.out.2 z (List.mem_of_getElem? hz)
        have hT := light_ok z.t (.agg z.cells.toArray) (hzo.val.keeps (hkp _))
        obtain ⟨TA, hTA⟩ : ∃ TA, TA = z.cells.toArray := ⟨_, rfl⟩
        rw [← hTA] at hT hld
        obtain ⟨lz, hlz⟩ : ∃ lz, lz = light z.t := ⟨_, rfl⟩
        rw [← hlz] at hT
        have HT := Lib.hid hT
        have HZ := Lib.hid (And.intro hz hlz)
        have p1 : (0:Int) ≤ j := by omega
        have p2 : (j:Int) < n := by omega
        have p3 : (j:Int) < most := by omega
        clear hz hkp hx0 hzo hT hTA hlz
        cases lz
        · go_wp2_with (first | (go_at_call 20; refine HT.out.mono ?_; rintro e w1 ⟨rfl, m1⟩; have H1 := Lib.hid m1; clear m1) | fail)
          go_ret
          refine ⟨?_, HA.out.2.trans H1.out⟩
          have : lights l most = false := by
            cases hq : lights l most with
            | false => rfl
            | true => have := (lights_of hq).2 z (List.mem_of_getElem? HZ.out.1); rw [← HZ.out.2] at this; simp at this
          rw [HR.out, this]; rfl
        · go_wp2_with (first | (go_at_call 20; refine HT.out.mono ?_; rintro e w1 ⟨rfl, m1⟩; have H1 := Lib.hid m1; clear m1) | fail)
          refine ⟨⟨j + 1, by go_num, by omega, by omega, ?_, HA.out.2.trans H1.out⟩, by simp [intOf]; omega⟩
          rw [take_snoc' HZ.out.1, List.all_append, HA.out.1]
          simp [← HZ.out.2]
      · obtain rfl : j = most := by omega
        have p0 : ¬ ((n : Int) ≤ j) := by omega
        have p1 : decide ((n : Int) ≤ j) = false := by simpa using p0
        have hres : lights l j = false := by simp only [lights, ← HN.out]; simp; intro _; omega
        have H9 := Lib.hid hres
        clear hres
        go_wp2
        go_ret
        exact ⟨by rw [HR.out, H9.out]; rfl, HA.out.2⟩
    · obtain rfl : n = j := by omega
      have p0 : ((n : Int) ≤ most) := by omega
      have p1 : decide ((n : Int) ≤ most) = true := by simpa using p0
      have hres : lights l most = true := by
        have e : l.take most = l.take n := by rw [List.take_of_length_le (by have := HN.out; omega), List.take_of_length_le (by have := HN.out; omega)]
        simp only [lights, e, HA.out.1, ← HN.out, Bool.true_and, decide_eq_true_eq]
        omega
      have H9 := Lib.hid hres
      clear hres
      go_wp2
      go_ret
      exact ⟨by rw [HR.out, H9.out]; rfl, HA.out.2⟩
end

section
attribute [local go_sem] stPair gtPair gtK8 gtM6 run_store_func
attribute [local go_sem high] neqPair eqK8 eqM6
attribute [local go_sem ↓] load_fold store_fold alloc_fold slice_op_fold chg_load_fold
open Go.RowKit
set_option linter.unusedVariables false
def tenZero : Sem Value := Instr.build 34 #[]
theorem ten_zero_fold (ρ : Operand → Value) (dst : Option Tmp) (ty : TypeId) (pos : String) (after : Array Edge) (g : Option (Nat × Bool)) :
    execOp ρ { dst := dst, op := .build 34 #[], type := ty, pos := pos, after := after, guard := g } = (do pure (Next.value (← tenZero)) : Sem Next) := by
  show (do pure (Next.value (← Instr.build 34 (#[].map fun (i, x) => (i, ρ x)))) : Sem Next) = _
  simp only [Array.map_empty]
  rfl
attribute [local go_sem ↓] ten_zero_fold
set_option maxRecDepth 100000 in
theorem tenZero_run : ∀ W, tenZero.run Try.prog W = .ok (.agg zTen) W := fun W => by kernel_rfl
def TV.zero : TV := ⟨.zero, .slice none 0 0, .slice none 0 0, .slice none 0 0⟩
end

section
attribute [local go_sem] stPair gtPair gtK8 gtM6 run_store_func
attribute [local go_sem high] neqPair eqK8 eqM6
attribute [local go_sem ↓] load_fold store_fold alloc_fold slice_op_fold chg_load_fold ten_zero_fold
open Go.RowKit
set_option linter.unusedVariables false
def chgAlloc (v : Value) : Sem Value := Instr.alloc 47 true v
theorem chg_alloc_fold (v : Value) : Instr.alloc 47 true v = chgAlloc v := rfl
attribute [local go_sem ↓] chg_alloc_fold
def chgStore (p v : Value) : Sem Unit := Instr.storeAt 47 p v
theorem chg_store_fold (p v : Value) : Instr.storeAt 47 p v = chgStore p v := rfl
attribute [local go_sem ↓] chg_store_fold
def chgZero : Sem Value := Instr.build 47 #[]
theorem chg_zero_fold (ρ : Operand → Value) (dst : Option Tmp) (ty : TypeId) (pos : String) (after : Array Edge) (g : Option (Nat × Bool)) :
    execOp ρ { dst := dst, op := .build 47 #[], type := ty, pos := pos, after := after, guard := g } = (do pure (Next.value (← chgZero)) : Sem Next) := by
  show (do pure (Next.value (← Instr.build 47 (#[].map fun (i, x) => (i, ρ x)))) : Sem Next) = _
  simp only [Array.map_empty]
  rfl
attribute [local go_sem ↓] chg_zero_fold
def chgPut (v : Value) : Sem Value := Instr.build 47 #[(0, v)]
theorem chg_put_fold (ρ : Operand → Value) (x : Operand) (dst : Option Tmp) (ty : TypeId) (pos : String) (after : Array Edge) (g : Option (Nat × Bool)) :
    execOp ρ { dst := dst, op := .build 47 #[(0, x)], type := ty, pos := pos, after := after, guard := g } = (do pure (Next.value (← chgPut (ρ x))) : Sem Next) := by
  show (do pure (Next.value (← Instr.build 47 (#[(0, x)].map fun (i, x) => (i, ρ x)))) : Sem Next) = _
  have hm : (#[((0 : Nat), x)].map fun (i, x) => (i, ρ x)) = #[(0, ρ x)] := by simp
  rw [hm]
  rfl
attribute [local go_sem ↓] chg_put_fold
end

section
attribute [local go_sem] stPair gtPair gtK8 gtM6 run_store_func
attribute [local go_sem high] neqPair eqK8 eqM6
attribute [local go_sem ↓] load_fold store_fold alloc_fold slice_op_fold chg_load_fold ten_zero_fold chg_alloc_fold chg_store_fold chg_zero_fold chg_put_fold
open Go.RowKit
set_option linter.unusedVariables false
def chgMake (v u : Value) : Sem Value := Instr.build 47 #[(0, v), (2, u)]
theorem chg_make_fold (ρ : Operand → Value) (x y : Operand) (dst : Option Tmp) (ty : TypeId) (pos : String) (after : Array Edge) (g : Option (Nat × Bool)) :
    execOp ρ { dst := dst, op := .build 47 #[(0, x), (2, y)], type := ty, pos := pos, after := after, guard := g } = (do pure (Next.value (← chgMake (ρ x) (ρ y))) : Sem Next) := by
  show (do pure (Next.value (← Instr.build 47 (#[(0, x), (2, y)].map fun (i, x) => (i, ρ x)))) : Sem Next) = _
  have hm : (#[((0 : Nat), x), (2, y)].map fun (i, x) => (i, ρ x)) = #[(0, ρ x), (2, ρ y)] := by simp
  rw [hm]
  rfl
attribute [local go_sem ↓] chg_make_fold
end

section
attribute [local go_sem] stPair gtPair gtK8 gtM6 run_store_func
attribute [local go_sem high] neqPair eqK8 eqM6
attribute [local go_sem ↓] load_fold store_fold alloc_fold slice_op_fold chg_load_fold ten_zero_fold chg_alloc_fold chg_store_fold chg_zero_fold chg_put_fold chg_make_fold
open Go.RowKit
set_option linter.unusedVariables false
theorem tenant_same {S S' : Nat → Prop} {w : World} {x y : TV} (hx : x.Rows S w) (hy : y.Rows S' w) (e : x.t = y.t) (h1 : y.t.pool.length ≤ 300) (h2 : y.t.statics.length ≤ 300) (h3 : y.t.twices.length ≤ 300) :
    Calls Try.prog 15 #[.agg x.cells.toArray, .agg y.cells.toArray] w fun e w' => e = .returned (.bool true) ∧ Mod No w w' := by
  have val : ∀ {S : Nat → Prop} {x : TV}, x.Rows S w → TenV S w x.t (.agg x.cells.toArray) := by
    intro S x h
    obtain ⟨P, p, Q, q, R, r, e1, e2, e3, r1, r2, r3⟩ := h
    exact ⟨P, p, Q, q, R, r, by simp [TV.cells, e1, e2, e3], r1, r2, r3⟩
  have h := tenant_ok x.t y.t _ _ (val hx) (val hy) (by rw [e]; omega) (by rw [e]; omega) (by rw [e]; omega)
  rw [e, decide_eq_true rfl] at h
  exact h
end

section
attribute [local go_sem] stPair gtPair gtK8 gtM6 run_store_func
attribute [local go_sem high] neqPair eqK8 eqM6
attribute [local go_sem ↓] load_fold store_fold alloc_fold slice_op_fold chg_load_fold ten_zero_fold chg_alloc_fold chg_store_fold chg_zero_fold chg_put_fold chg_make_fold
open Go.RowKit
set_option linter.unusedVariables false
theorem TV.Rows.size {S : Nat → Prop} {w : World} {x : TV} (h : x.Rows S w) : x.cells.toArray.size = 33 := rfl
/-- Tenants' values: each with rows that are there. -/
def TVl (S : Nat → Prop) (w : World) (A : Option Addr) (l : List TV) : Prop := RowAt S w A (tvCells l) ∧ ∀ x ∈ l, x.Rows S w
theorem TVl.keeps {S : Nat → Prop} {w w' : World} {A : Option Addr} {l : List TV} (h : TVl S w A l) (hk : Keeps S w w') : TVl S w' A l := ⟨h.1.keeps hk, fun x hx => (h.2 x hx).keeps hk⟩
theorem TVl.nil (S : Nat → Prop) (w : World) (A : Option Addr) : TVl S w A [] := ⟨.nil _ _ _, by simp⟩
set_option maxRecDepth 100000 in
theorem tenants_same {S S' : Nat → Prop} {w : World} {A B : Option Addr} {n c d : Nat} {l l' : List TV} (hA : TVl S w A l) (hB : TVl S' w B l') (hn : n = l.length) (he : l.map (·.t) = l'.map (·.t)) (hl : ∀ x ∈ l', x.t.pool.length ≤ 300 ∧ x.t.statics.length ≤ 300 ∧ x.t.twices.length ≤ 300) (h63 : n ≤ 9223372036854775807) :
    Calls Try.prog 12 #[.slice A n c, .slice B n d] w fun e w' => e = .returned (.bool true) ∧ Mod No w w' := by
  have hlen : l'.length = l.length := by have := congrArg List.length he; simpa using this.symm
  have H0 := Lib.hid (And.intro hA (And.intro hB (And.intro hn (And.intro he (And.intro hl hlen)))))
  have hne : ((n : Int) != n) = false := by simp
  clear hA hB hn he hl hlen
  go_enter Try.func12, Try.ntmps12
  go_wp2
  go_loopw [5] (fun i wr => ∃ j : Nat, i = .int .i64 j ∧ j ≤ n ∧ Mod No w wr) (fun i _ => n - (intOf i).toNat)
  case atStart => exact ⟨0, rfl, by omega, Mod.refl _ _⟩
  case round =>
    obtain ⟨j, rfl, hj, hmw⟩ := hrel
    have HM := Lib.hid hmw
    clear hmw
    by_cases hlt : j < n
    · obtain ⟨x, hx⟩ : ∃ x, l[j]? = some x := ⟨_, List.getElem?_eq_getElem (by have := H0.out.2.2.1; omega)⟩
      obtain ⟨y, hy⟩ : ∃ y, l'[j]? = some y := ⟨_, List.getElem?_eq_getElem (by have := H0.out.2.2.1; have := H0.out.2.2.2.2.2; omega)⟩
      have hxy : x.t = y.t := by
        have h1 := congrArg (fun m => m[j]?) H0.out.2.2.2.1
        simpa [hx, hy] using h1
      have kA := H0.out.1.keeps (HM.out.keeps (fun _ _ _ f => f))
      have kB := H0.out.2.1.keeps (HM.out.keeps (fun _ _ _ f => f))
      obtain ⟨b, o, rfl, _, _, hx0⟩ := kA.1.elem TV.cells 33 TV.len (by omega) hx
      obtain ⟨b', o', rfl, _, _, hy0⟩ := kB.1.elem TV.cells 33 TV.len (by omega) hy
      have hkd : ∀ S, Keeps S wr wr.drew := fun S => (Mod.refl No _).drew.keeps (fun _ _ _ f => f)
      have hld1 := tenLoad_mid wr.drew b (o + j * 33) x.cells rfl (fun i v hi => (Mod.refl No wr).drew.cell (hx0 i v hi) id)
      have hld2 := tenLoad_mid wr.drew b' (o' + j * 33) y.cells rfl (fun i v hi => (Mod.refl No wr).drew.cell (hy0 i v hi) id)
      have hly := H0.out.2.2.2.2.1 y (List.mem_of_getElem? hy)
      have hs := (tenant_same (w := wr.drew) ((kA.2 x (List.mem_of_getElem? hx)).keeps (hkd _)) ((kB.2 y (List.mem_of_getElem? hy)).keeps (hkd _)) hxy hly.1 hly.2.1 hly.2.2)
      obtain ⟨TX, hTX⟩ : ∃ TX, TX = x.cells.toArray := ⟨_, rfl⟩
      obtain ⟨TY, hTY⟩ : ∃ TY, TY = y.cells.toArray := ⟨_, rfl⟩
      rw [← hTX] at hld1 hs
      rw [← hTY] at hld2 hs
      have HS := Lib.hid hs
      have p1 : (0:Int) ≤ j := by omega
      have p2 : (j:Int) < n := by omega
      clear hx hy hxy kA kB hx0 hy0 hkd hly hs hTX hTY
      go_wp2_with fail
      go_region_law (first | (go_simp; go_at_call 15; refine HS.out.mono ?_; rintro e w9 ⟨rfl, m9⟩; have H9 := Lib.hid m9; clear m9))
      all_goals
        go_wp2
        exact ⟨⟨j + 1, by go_num, by omega, (HM.out.drew).trans H9.out⟩, by simp [intOf]; omega⟩
    · obtain rfl : n = j := by omega
      go_wp2
      go_ret
      exact ⟨rfl, HM.out⟩
end

section
open Go.RowKit Go.MapKept Go.ChangeMaps
set_option linter.unusedVariables false
attribute [local go_sem ↓] Go.wp_at_zero Go.wp_at_succ
attribute [local go_sem ↓] store_fold alloc_fold load_fold
theorem setCell_blk {W : World} {b i : Nat} {cs : Array Value} {t : TypeId} {fr : Nat × Nat} (h : W.heap[b]? = some (.cells cs t fr)) (v : Value) : (W.setCell ⟨b, i, none⟩ v).heap[b]? = some (.cells (cs.setIfInBounds i v) t fr) := by
  simp only [World.setCell]
  rw [Array.getElem?_modify, if_pos rfl, h]
  rfl
theorem tenStore_run {W : World} {b : Nat} {old CA : Array Value} (h : W.heap[b]? = some (.cells old 34 (0, 0))) (ho : old.size = 33) (hc : CA.size = 33) (h1 : CA.all (·.oneCell') = true) : (tenStore (.pointer (some ⟨b, 0, none⟩)) (.agg CA)).run Try.prog W = .ok () (W.setRow b CA) := by
  simp only [tenStore, Instr.storeAt, Instr.sureAddr, Sem.run_bind, Sem.run_pure, Result.andThen_ok]
  exact run_storeVar_row W b _ _ old CA h (by rw [tenSize, hc]) (by rw [ho, hc]) h1
theorem Mod.setRow {F : Nat → Prop} {a w : World} (h : Mod F a w) {b : Nat} (hp : a.heap.size ≤ b ∨ F b) (cs : Array Value) : Mod F a (w.setRow b cs) :=
  h.trans' (G := fun x => x = b) ⟨rfl, rfl, rfl, by simp [World.setRow], fun k hk hf => by
    have h' : ¬ b = k := fun e => hf e.symm
    simp [World.setRow, Array.getElem?_modify, h']⟩ (fun i hi hg => by subst hg; rcases hp with hp | hp; omega; exact hp)
theorem nums_one (l : List Nat) : ∀ u ∈ numCells l, u.oneCell' = true := by
  intro u hu
  obtain ⟨n, _, rfl⟩ := List.mem_map.1 hu
  rfl
theorem prs_one (l : List Pr) : ∀ u ∈ prCells l, u.oneCell' = true := by
  intro u hu
  obtain ⟨n, _, hn⟩ := List.mem_flatMap.1 hu
  simp [Pr.cells] at hn
  rcases hn with rfl | rfl <;> rfl
theorem cloneN_ok {S : Nat → Prop} {w : World} {A : Option Addr} {c : Nat} (l : List Nat) (hr : RowAt S w A (numCells l)) (hl : l.length ≤ 1000000) :
    Calls Try.prog 36 #[.slice A l.length c] w fun e w' => ∃ A' c', e = .returned (.slice A' l.length c') ∧ l.length ≤ c' ∧ RowAt (fun b => w.heap.size ≤ b) w' A' (numCells l) ∧ Mod No w w' := by
  refine (clone_okN32 (numCells l) hr (by rw [numCells_length, Nat.mul_one]) (nums_one l) (by omega)).mono ?_
  rintro e w' ⟨v, rfl, hown, hm⟩
  obtain ⟨A', c', rfl, hc, hr'⟩ := RowAt.of_owns hown
  exact ⟨A', c', rfl, hc, hr', hm⟩
theorem clonePr_ok {S : Nat → Prop} {w : World} {A : Option Addr} {c : Nat} (l : List Pr) (hr : RowAt S w A (prCells l)) (hl : l.length ≤ 1000000) :
    Calls Try.prog 37 #[.slice A l.length c] w fun e w' => ∃ A' c', e = .returned (.slice A' l.length c') ∧ l.length ≤ c' ∧ RowAt (fun b => w.heap.size ≤ b) w' A' (prCells l) ∧ Mod No w w' := by
  refine (clone_okPr (prCells l) hr (prCells_length l) (prs_one l) (by omega)).mono ?_
  rintro e w' ⟨v, rfl, hown, hm⟩
  obtain ⟨A', c', rfl, hc, hr'⟩ := RowAt.of_owns hown
  exact ⟨A', c', rfl, hc, hr', hm⟩
/-- Small enough. -/
def TV.Small (x : TV) : Prop := x.t.pool.length ≤ 1000 ∧ x.t.statics.length ≤ 1000 ∧ x.t.twices.length ≤ 1000 ∧ x.t.name.length ≤ 1000000
set_option maxRecDepth 100000 in
set_option maxHeartbeats 4000000 in
theorem copied_ok {S : Nat → Prop} {w : World} (x : TV) (hx : x.Rows S w) (hs : x.Small) :
    Calls Try.prog 23 #[.agg x.cells.toArray] w fun e w' => ∃ y : TV, e = .returned (.agg y.cells.toArray) ∧ y.t = x.t ∧ y.Rows (fun b => w.heap.size ≤ b) w' ∧ Mod No w w' := by
  obtain ⟨P, p, Q, q, R, r, e1, e2, e3, r1, r2, r3⟩ := hx
  obtain ⟨CA, hCA⟩ : ∃ CA, CA = x.cells.toArray := ⟨_, rfl⟩
  have bA := box_ten CA (by rw [hCA]; rfl)
  have hal := tenAlloc_run (w.alloc (.cells CA 34))
  obtain ⟨W2, hW2⟩ : ∃ W2, W2 = (w.alloc (.cells CA 34)).alloc (.cells zTen 34) := ⟨_, rfl⟩
  have m2 : Mod No w W2 := by rw [hW2]; exact ((Mod.refl _ _).alloc _).alloc _
  have hb0 : W2.heap[w.heap.size]? = some (.cells CA 34 (0, 0)) := by rw [hW2]; exact at20 w _ _
  have hb1 : W2.heap[w.heap.size + 1]? = some (.cells zTen 34 (0, 0)) := by rw [hW2]; exact at21 w _ _
  have c6 : CA[23]? = some (.slice P x.t.pool.length p) := by rw [hCA]; simp [TV.cells, Ten.cells, e1]
  have c10 : CA[27]? = some (.slice Q x.t.statics.length q) := by rw [hCA]; simp [TV.cells, Ten.cells, e2]
  have c11 : CA[28]? = some (.slice R x.t.twices.length r) := by rw [hCA]; simp [TV.cells, Ten.cells, e3]
  have hcell : ∀ W, Mod No W2 W → W.cell? ⟨w.heap.size, 23, none⟩ = some (.slice P x.t.pool.length p) ∧ W.cell? ⟨w.heap.size, 27, none⟩ = some (.slice Q x.t.statics.length q) ∧ W.cell? ⟨w.heap.size, 28, none⟩ = some (.slice R x.t.twices.length r) := fun W h => by
    have hb := h.obj hb0 (fun f => f)
    exact ⟨(blk_cell hb 23).trans c6, (blk_cell hb 27).trans c10, (blk_cell hb 28).trans c11⟩
  have h1 := fun W (h : Mod No W2 W) => cloneN_ok (c := p) x.t.pool (r1.keeps ((m2.trans h).keeps (fun _ _ _ f => f))) (by have := hs.1; omega)
  have h2 := fun W (h : Mod No W2 W) => clonePr_ok (c := q) x.t.statics (r2.keeps ((m2.trans h).keeps (fun _ _ _ f => f))) (by have := hs.2.1; omega)
  have h3 := fun W (h : Mod No W2 W) => clonePr_ok (c := r) x.t.twices (r3.keeps ((m2.trans h).keeps (fun _ _ _ f => f))) (by have := hs.2.2.1; omega)
  rw [← hCA]
  have HCA := Lib.hid hCA
  have HC := Lib.hid hcell
  have H1 := Lib.hid h1
  have H2 := Lib.hid h2
  have H3 := Lib.hid h3
  have HB0 := Lib.hid hb0
  have HB1 := Lib.hid hb1
  have HW2 := Lib.hid hW2
  have HE := Lib.hid (And.intro e1 (And.intro e2 (And.intro e3 (And.intro c6 (And.intro c10 c11)))))
  have HM2 := Lib.hid m2
  clear hCA hcell h1 h2 h3 hb0 hb1 m2 e1 e2 e3 c6 c10 c11 r1 r2 r3
  go_enter Try.func23, Try.ntmps23
  rw [← hW2] at hal
  clear hW2
  go_upto_region 1 with fail
  obtain ⟨k1, k2, k3⟩ := HC.out W2 (Mod.refl _ _)
  go_cut [15] (fun s15 wx => ∃ y : TV, y.t = x.t ∧ wx.heap[w.heap.size]? = some (.cells y.cells.toArray 34 (0, 0)) ∧ y.Rows (fun b => w.heap.size + 2 ≤ b) wx ∧ Mod No w wx ∧ wx.heap[w.heap.size + 1]? = some (.cells zTen 34 (0, 0)))
  case first =>
    go_region_with (first
      | (go_at_call 36; refine (H1.out _ ?_).mono ?_; (repeat (first | with_reducible exact Mod.refl _ _ | assumption | refine Mod.drew ?_)); rintro e W3 ⟨A3, c3, rfl, hc3, hr3, hm3⟩; have hn3 : Mod No W2 W3 := Mod.trans (by (repeat (first | with_reducible exact Mod.refl _ _ | assumption | refine Mod.drew ?_))) hm3; obtain ⟨l1, l2, l3⟩ := HC.out W3 hn3; have R3 := Lib.hid hr3; clear hr3 hm3)
      | (go_at_call_of 37 (Value.slice Q x.t.statics.length q); refine (H2.out _ ?_).mono ?_; (repeat (first | with_reducible exact Mod.refl _ _ | assumption | refine Mod.drew ?_)); rintro e W4 ⟨A4, c4, rfl, hc4, hr4, hm4⟩; have hn4 : Mod No W2 W4 := Mod.trans hn3 hm4; obtain ⟨l1', l2', l3'⟩ := HC.out W4 hn4; have R4 := Lib.hid hr4; have R34 := Lib.hid (R3.out.keeps (hm4.keeps (fun _ _ _ f => f))); have Z4 := Lib.hid hm4.size; clear hr4 hm4)
      | (go_at_call_of 37 (Value.slice R x.t.twices.length r); refine (H3.out _ ?_).mono ?_; (repeat (first | with_reducible exact Mod.refl _ _ | assumption | refine Mod.drew ?_)); rintro e W5 ⟨A5, c5, rfl, hc5, hr5, hm5⟩; have hn5 : Mod No W2 W5 := Mod.trans hn4 hm5; have hb5 := hn5.obj HB0.out (fun f => f); have fz := blk_free hb5; obtain ⟨l1'', l2'', l3''⟩ := HC.out W5 hn5; have R5 := Lib.hid hr5; have R345 := Lib.hid (R34.out.keeps (hm5.keeps (fun _ _ _ f => f))); have R45 := Lib.hid (R4.out.keeps (hm5.keeps (fun _ _ _ f => f))); have B5 := Lib.hid hb5; clear hr5 hm5 hb5))
    all_goals
      go_wp2_with fail
      go_meet
      refine ⟨⟨x.t, .slice A3 x.t.pool.length c3, .slice A4 x.t.statics.length c4, .slice A5 x.t.twices.length c5⟩, rfl, ?_, ?_, ?_, ?_⟩
      · rw [setCell_blk (setCell_blk (setCell_blk B5.out _) _) _, HCA.out]
        simp [TV.cells, Ten.cells]
      · have z2 := lt_of_block HB1.out
        have z3 := hn3.size
        have z4 := hn4.size
        refine ⟨A3, c3, A4, c4, A5, c5, rfl, rfl, rfl, ?_, ?_, ?_⟩
        · refine (R345.out.mono (S' := fun b => w.heap.size + 2 ≤ b) (fun b _ hb => by have hb' : W2.heap.size ≤ b := hb; show w.heap.size + 2 ≤ b; omega)).keeps (Mod.keeps (F := fun b => b = w.heap.size) ?_ (fun b _ hb f => by have hb' : w.heap.size + 2 ≤ b := hb; omega))
          repeat (first | with_reducible exact Mod.refl _ _ | refine Mod.setCell ?_ (.inr (by rfl)) _)
        · refine (R45.out.mono (S' := fun b => w.heap.size + 2 ≤ b) (fun b _ hb => by have hb' : W3.heap.size ≤ b := hb; show w.heap.size + 2 ≤ b; omega)).keeps (Mod.keeps (F := fun b => b = w.heap.size) ?_ (fun b _ hb f => by have hb' : w.heap.size + 2 ≤ b := hb; omega))
          repeat (first | with_reducible exact Mod.refl _ _ | refine Mod.setCell ?_ (.inr (by rfl)) _)
        · refine (R5.out.mono (S' := fun b => w.heap.size + 2 ≤ b) (fun b _ hb => by have hb' : W4.heap.size ≤ b := hb; show w.heap.size + 2 ≤ b; omega)).keeps (Mod.keeps (F := fun b => b = w.heap.size) ?_ (fun b _ hb f => by have hb' : w.heap.size + 2 ≤ b := hb; omega))
          repeat (first | with_reducible exact Mod.refl _ _ | refine Mod.setCell ?_ (.inr (by rfl)) _)
      · have hm9 := HM2.out.trans hn5
        repeat (first | with_reducible exact hm9 | refine Mod.setCell ?_ (.inl (Nat.le_refl _)) _)
      · have hb9 := hn5.obj HB1.out (fun f => f)
        refine Mod.obj (F := fun b => b = w.heap.size) ?_ hb9 (fun f => by omega)
        repeat (first | with_reducible exact Mod.refl _ _ | refine Mod.setCell ?_ (.inr (by rfl)) _)
  case rest =>
    obtain ⟨y, hy, hyb, hyr, hym, hyz⟩ := hcut
    have hl := tenLoad_run hyb rfl
    have hst := tenStore_run hyz rfl (CA := y.cells.toArray) rfl (TV.one hyr)
    have HY := Lib.hid (And.intro hy (And.intro hyr (And.intro hym (And.intro hyb hyz))))
    obtain ⟨CY, hCY⟩ : ∃ CY, CY = y.cells.toArray := ⟨_, rfl⟩
    rw [← hCY] at hl hst
    have HCY := Lib.hid hCY
    clear hCY hyb hyz hyr hym hy hal bA
    go_wp2
    refine bodyPost_ret (results_cell_row rfl _ _ (w.heap.size + 1) 34 CY (0, 0) _ rfl (setRow_heap _ _ _ _ _ _ HY.out.2.2.2.2) Try.underlying34 rfl (by rw [tenSize, HCY.out]; rfl)) rfl ?_
    rw [HCY.out]
    refine ⟨y, rfl, HY.out.1, ?_, Mod.setRow HY.out.2.2.1 (.inl (by omega)) _⟩
    exact (HY.out.2.1.keeps ((Mod.setRow (F := fun b => b = w.heap.size + 1) (Mod.refl _ _) (.inr rfl) _).keeps (fun b _ hb f => by have hb' : w.heap.size + 2 ≤ b := hb; omega))).imp (fun b hb => by have hb' : w.heap.size + 2 ≤ b := hb; omega)
end

section
attribute [local go_sem] stPair gtPair gtK8 gtM6 run_store_func
attribute [local go_sem high] neqPair eqK8 eqM6
attribute [local go_sem ↓] load_fold store_fold alloc_fold slice_op_fold chg_load_fold ten_zero_fold chg_alloc_fold chg_store_fold chg_zero_fold chg_put_fold chg_make_fold
open Go.RowKit
set_option linter.unusedVariables false
theorem infoChg : (Try.prog.info? 47).map (fun i => (i.zero, i.size)) = some (some (.agg zChg), 35) := by kernel_rfl
theorem list35' {α : Type} : ∀ (l : List α), l.length = 35 → ∃ c0 c1 c2 c3 c4 c5 c6 c7 c8 c9 c10 c11 c12 c13 c14 c15 c16 c17 c18 c19 c20 c21 c22 c23 c24 c25 c26 c27 c28 c29 c30 c31 c32 c33 c34, l = [c0, c1, c2, c3, c4, c5, c6, c7, c8, c9, c10, c11, c12, c13, c14, c15, c16, c17, c18, c19, c20, c21, c22, c23, c24, c25, c26, c27, c28, c29, c30, c31, c32, c33, c34]
  | c0 :: c1 :: c2 :: c3 :: c4 :: c5 :: c6 :: c7 :: c8 :: c9 :: c10 :: c11 :: c12 :: c13 :: c14 :: c15 :: c16 :: c17 :: c18 :: c19 :: c20 :: c21 :: c22 :: c23 :: c24 :: c25 :: c26 :: c27 :: c28 :: c29 :: c30 :: c31 :: c32 :: c33 :: c34 :: [], _ => ⟨c0, c1, c2, c3, c4, c5, c6, c7, c8, c9, c10, c11, c12, c13, c14, c15, c16, c17, c18, c19, c20, c21, c22, c23, c24, c25, c26, c27, c28, c29, c30, c31, c32, c33, c34, rfl⟩
set_option maxRecDepth 100000 in
theorem chg_build (CA : Array Value) (h : CA.size = 35) : ∀ W, (Instr.buildSlice 23 1 #[(0, .agg CA)]).run Try.prog W = .ok (.slice (some ⟨W.heap.size, 0, none⟩) 1 1) (W.alloc (.cells CA 47)) := by
  intro W
  have hi := infoChg
  cases hie : Try.prog.info? 47 with
  | none => rw [hie] at hi; simp at hi
  | some ie =>
    rw [hie] at hi
    simp only [Option.map_some, Option.some.injEq, Prod.mk.injEq] at hi
    refine Go.run_buildSlice W _ 47 1 _ CA ie _ Try.underlying23 hie hi.1 (by rw [hi.2]; decide) (by rw [hi.2]; decide) ?_
    rw [hi.2]
    obtain ⟨l⟩ := CA
    obtain ⟨c0, c1, c2, c3, c4, c5, c6, c7, c8, c9, c10, c11, c12, c13, c14, c15, c16, c17, c18, c19, c20, c21, c22, c23, c24, c25, c26, c27, c28, c29, c30, c31, c32, c33, c34, rfl⟩ := list35' l (by simpa using h)
    kernel_rfl
def chgSlice (v : Value) : Sem Value := Instr.buildSlice 23 1 #[(0, v)]
theorem chg_slice_fold (ρ : Operand → Value) (x : Operand) (dst : Option Tmp) (ty : TypeId) (pos : String) (after : Array Edge) (g : Option (Nat × Bool)) :
    execOp ρ { dst := dst, op := .buildSlice 23 1 #[(0, x)], type := ty, pos := pos, after := after, guard := g } = (do pure (Next.value (← chgSlice (ρ x))) : Sem Next) := by
  show (do pure (Next.value (← Instr.buildSlice 23 1 (#[(0, x)].map fun (i, x) => (i, ρ x)))) : Sem Next) = _
  have hm : (#[((0 : Nat), x)].map fun (i, x) => (i, ρ x)) = #[(0, ρ x)] := by simp
  rw [hm]
  rfl
attribute [local go_sem ↓] chg_slice_fold
end

section
open Go.RowKit
set_option linter.unusedVariables false
/-- Elements: their cells; what they point to. -/
structure Shp (α : Type) where
  cells : α → List Value
  R : (Nat → Prop) → World → α → Prop
  size : Nat
  len : ∀ x, (cells x).length = size
  pos : 0 < size
  keep : ∀ {S w w' x}, R S w x → Keeps S w w' → R S w' x
  lt : ∀ {S S' w x}, R S w x → (∀ b, b < w.heap.size → S b → S' b) → R S' w x
  one : ∀ {S w x}, R S w x → ∀ u ∈ cells x, u.oneCell' = true
/-- A list of one's own. -/
structure OL {α : Type} (H : Shp α) (e : TypeId) (w : World) (base : Nat) (v : Value) (l : List α) : Prop where
  own : w.ownsRow base e H.size v l.length (l.flatMap H.cells)
  rows : ∀ x ∈ l, H.R (fun b => base ≤ b ∧ v.ownBlock ≠ some b) w x
section
variable {P : Program} {α : Type} {H : Shp α} {e : TypeId} {w w' : World} {base : Nat} {v : Value} {l : List α}
theorem OL.nil (H : Shp α) (e : TypeId) (w : World) (base : Nat) : OL H e w base (.slice none 0 0) [] := ⟨⟨by simp, .inl ⟨rfl, rfl⟩⟩, by simp⟩
theorem OL.block (h : OL H e w base v l) {b : Nat} (hb : v.ownBlock = some b) : base ≤ b ∧ b < w.heap.size := by
  rcases h.own.2 with ⟨rfl, _⟩ | ⟨g, cap, cur, rfl, hg, hgg, _⟩
  · simp [Value.ownBlock] at hb
  · obtain rfl : g = b := by simpa [Value.ownBlock] using hb
    exact ⟨hg, lt_of_block hgg⟩
theorem OL.lower {base' : Nat} (h : OL H e w base v l) (hb : base' ≤ base) : OL H e w base' v l := by
  refine ⟨⟨h.own.1, ?_⟩, fun x hx => H.lt (h.rows x hx) (fun b _ hs => ⟨by have := hs.1; omega, hs.2⟩)⟩
  rcases h.own.2 with hn | ⟨g, cap, cur, rfl, hg, rest⟩
  · exact .inl hn
  · exact .inr ⟨g, cap, cur, rfl, by omega, rest⟩
theorem OL.mod {F : Nat → Prop} (h : OL H e w base v l) (hm : Mod F w w') (hF : ∀ b, base ≤ b → b < w.heap.size → ¬ F b) : OL H e w' base v l :=
  ⟨own_mod h.own hm (fun k hk => hF k (h.block hk).1 (h.block hk).2), fun x hx => H.keep (h.rows x hx) (hm.keeps (fun b hb hs => hF b hs.1 hb))⟩
/-- One more. -/
theorem OL.push (h : OL H e w base v l) {x : α} (hx : H.R (fun b => base ≤ b ∧ v.ownBlock ≠ some b) w x) {t : TypeId} (ty : TypeId) (i : TypeInfo) (z : Value) (bytes : Nat) (ht : P.underlying t = some (.slice e)) (hi : P.info? e = some i) (hz : i.zero = some z)
    (hsize : i.size = H.size) (hby : i.bytes = bytes) (hzs : z.cells.size = H.size) (h63 : l.length + 1 ≤ maxLen) (hbytes : (l.length + 1) * bytes ≤ 140737488355328) (hbase : base ≤ w.heap.size) :
    ∃ v' w', (Builtin.append_ #[t, t] ty #[v, .slice (some ⟨w.heap.size, 0, none⟩) 1 1]).run P (w.alloc (.cells (H.cells x).toArray e)) = .ok v' w' ∧ OL H e w' base v' (l ++ [x]) ∧ Mod (fun b => v.ownBlock = some b) w w' := by
  have m1 : Mod No w (w.alloc (.cells (H.cells x).toArray e)) := (Mod.refl _ _).alloc _
  have hr : RowAt (fun b => b = w.heap.size) (w.alloc (.cells (H.cells x).toArray e)) (some ⟨w.heap.size, 0, none⟩) (H.cells x) :=
    .inr ⟨w.heap.size, 0, rfl, rfl, fun j u hj => by rw [Nat.zero_add]; exact (blk_cell (at10 w _) j).trans (by simpa using hj)⟩
  obtain ⟨v', w', h1, h2, h3, h4⟩ := run_append_row (P := P) _ base t ty e i z H.size bytes ht hi hz hsize hby hzs H.pos v l.length _ (own_mod h.own m1 (fun k _ f => f)) _ 1 1 (H.cells x) hr (by rw [H.len, Nat.one_mul]) (H.one hx) h63 hbytes (by simp; omega)
  have hm : Mod (fun b => v.ownBlock = some b) w w' := Mod.grown ((Mod.refl _ w).alloc _) h3 (fun k hk => .inr hk)
  refine ⟨v', w', h1, ⟨by simpa using h2, fun y hy => ?_⟩, hm⟩
  have hy' : H.R (fun b => base ≤ b ∧ v.ownBlock ≠ some b) w y := by
    rcases List.mem_append.1 hy with hy | hy
    · exact h.rows y hy
    · obtain rfl : y = x := by simpa using hy
      exact hx
  refine H.lt (H.keep (H.lt (S' := fun b => (base ≤ b ∧ v.ownBlock ≠ some b) ∧ b < w.heap.size) hy' (fun b hb hs => ⟨hs, hb⟩)) (hm.keeps (fun b _ hs f => hs.1.2 f))) (fun b hb hs => ⟨hs.1.1, fun f => ?_⟩)
  rcases h4 with h4 | h4
  · exact hs.1.2 (by rw [← h4]; exact f)
  · rw [h4] at f
    have := Option.some.inj f
    have h5 := hs.2
    simp at this
    omega
/-- A new element's rows, made behind the list. -/
theorem OL.fresh (h : OL H e w base v l) {x : α} {B : Nat} (hB : base ≤ B) (hw : ∀ k, v.ownBlock = some k → k < B) (hx : H.R (fun b => B ≤ b) w' x) : H.R (fun b => base ≤ b ∧ v.ownBlock ≠ some b) w' x :=
  H.lt hx (fun b _ hb => ⟨by have hb' : B ≤ b := hb; omega, fun f => by have := hw b f; have hb' : B ≤ b := hb; omega⟩)
theorem OL.open (h : OL H e w base v l) : ∃ A c, v = .slice A l.length c ∧ l.length ≤ c ∧ RowAt (fun b => base ≤ b) w A (l.flatMap H.cells) ∧ ∀ x ∈ l, H.R (fun b => base ≤ b) w x := by
  obtain ⟨A, c, rfl, hc, hr⟩ := RowAt.of_owns h.own
  exact ⟨A, c, rfl, hc, hr, fun x hx => H.lt (h.rows x hx) (fun b _ hb => hb.1)⟩
/-- What turns is one's own. -/
theorem OL.quiet {w0 : World} (h : OL H e w w0.heap.size v l) (h0 : Mod No w0 w) (hm : Mod (fun b => v.ownBlock = some b) w w') : Mod No w0 w' :=
  h0.trans' hm (fun i hi f => by have := (h.block f).1; omega)
end
/-! ### tenants -/
def shTen : Shp TV where
  cells := TV.cells
  R := fun S w x => x.Rows S w
  size := 33
  len := TV.len
  pos := by decide
  keep := fun h k => h.keeps k
  lt := fun h k => h.lt k
  one := fun h u hu => (Array.all_eq_true_iff_forall_mem.1 (TV.one h)) u (by simpa using hu)
theorem push_ten {w : World} {base : Nat} {v : Value} {l : List TV} (h : OL shTen 34 w base v l) {x : TV} (hx : x.Rows (fun b => base ≤ b ∧ v.ownBlock ≠ some b) w) (ty : TypeId) (hl : l.length ≤ 1000000) (hbase : base ≤ w.heap.size) :
    ∃ v' w', (Builtin.append_ #[22, 22] ty #[v, .slice (some ⟨w.heap.size, 0, none⟩) 1 1]).run Try.prog (w.alloc (.cells x.cells.toArray 34)) = .ok v' w' ∧ OL shTen 34 w' base v' (l ++ [x]) ∧ Mod (fun b => v.ownBlock = some b) w w' := by
  obtain ⟨i0, hi, hz0, hz1, hz2⟩ := info_parts infoTen
  exact h.push (H := shTen) hx ty i0 _ 160 Try.underlying22 hi hz0 hz1 hz2 (by rfl) (by unfold maxLen; omega) (by omega) hbase
/-! ### changes -/
structure Cg where
  put : Bool
  name : List UInt8
  x : TV
def Cg.cells (c : Cg) : List Value := (cChg c.put c.name c.x).toList
def shChg : Shp Cg where
  cells := Cg.cells
  R := fun S w c => c.x.Rows S w
  size := 35
  len := fun c => by simp [Cg.cells, cChg_size]
  pos := by decide
  keep := fun h k => h.keeps k
  lt := fun h k => h.lt k
  one := fun {S w c} h u hu => by
    have h1 := TV.one h
    simp only [Cg.cells, cChg, Array.toList_append, List.mem_append] at hu
    rcases hu with hu | hu
    · simp at hu
      rcases hu with rfl | rfl <;> rfl
    · exact (Array.all_eq_true_iff_forall_mem.1 h1) u (by simpa using hu)
theorem infoChgB : (Try.prog.info? 47).map (fun i => (i.zero, i.size, i.bytes)) = some (some (.agg zChg), 35, 184) := by kernel_rfl
theorem push_chg {w : World} {base : Nat} {v : Value} {l : List Cg} (h : OL shChg 47 w base v l) {x : Cg} (hx : x.x.Rows (fun b => base ≤ b ∧ v.ownBlock ≠ some b) w) (ty : TypeId) (hl : l.length ≤ 1000000) (hbase : base ≤ w.heap.size) :
    ∃ v' w', (Builtin.append_ #[23, 23] ty #[v, .slice (some ⟨w.heap.size, 0, none⟩) 1 1]).run Try.prog (w.alloc (.cells x.cells.toArray 47)) = .ok v' w' ∧ OL shChg 47 w' base v' (l ++ [x]) ∧ Mod (fun b => v.ownBlock = some b) w w' := by
  obtain ⟨i0, hi, hz0, hz1, hz2⟩ := info_parts infoChgB
  have e : shChg.cells x = x.cells := by simp only [shChg]
  rw [← e]
  exact h.push (H := shChg) (x := x) hx ty i0 _ 184 Try.underlying23 hi hz0 hz1 hz2 (show zChg.size = 35 from rfl) (by unfold maxLen; omega) (by omega) hbase
end

section
open Go.RowKit Go.MapKept Go.ChangeMaps
set_option linter.unusedVariables false
attribute [local go_sem ↓] Go.wp_at_zero Go.wp_at_succ
attribute [local go_sem ↓] store_fold alloc_fold load_fold
def TV.nm (x : TV) : Nm := x.t.name
def tKey (n : Nm) : Value := .string (str n)
def TV.val (x : TV) : Value := .agg x.cells.toArray
def tEnts (l : List TV) : List (Value × Value) := l.map fun x => (tKey x.nm, x.val)
theorem keyedStr : Maps.Keyed Try.prog 9 := Maps.string_keyed Try.underlying9
theorem keyOfStr (n : Nm) (hn : n.length ≤ 1000000) : keyOf Try.prog 9 (tKey n) = some (Lit.string n) := by
  have : (⟨n.toArray⟩ : ByteArray).size ≤ maxLen := by show n.toArray.size ≤ maxLen; simp; unfold maxLen; omega
  simp [keyOf, Try.underlying9, mapKey, tKey, str, this]
theorem tKey_inj {a b : Nm} (h : tKey a = tKey b) : a = b := by
  simp only [tKey, Value.string.injEq, str, ByteArray.mk.injEq] at h
  simpa using congrArg Array.toList h
theorem zeroTen (w : World) : (zeroValue 34).run Try.prog w = .ok (.agg zTen) w := by kernel_rfl
/-- A map of tenants: its entries in the order of laying. -/
structure TMap (S : Nat → Prop) (w : World) (b : Nat) (l : List TV) : Prop where
  gm : GMap Try.prog 9 w b (tEnts l)
  rows : ∀ x ∈ l, x.Rows S w
section
variable {S : Nat → Prop} {w w' : World} {b : Nat} {l : List TV}
theorem TMap.mod {F : Nat → Prop} (h : TMap S w b l) (hm : Mod F w w') (hb : ¬ F b) (hS : ∀ j, S j → ¬ F j) : TMap S w' b l := ⟨h.gm.mod hm hb, fun x hx => (h.rows x hx).keeps (hm.keeps (fun b _ hs => hS b hs))⟩
theorem TMap.nodup (h : TMap S w b l) : (l.map TV.nm).Nodup := by
  have h1 := h.gm.nodup
  unfold tEnts at h1
  rw [List.map_map] at h1
  exact List.Pairwise.of_map (S := fun a b : Value => a ≠ b) (R := fun a b : Nm => a ≠ b) tKey (fun a b hab f => hab (by rw [f])) (by rw [List.map_map]; exact h1)
theorem ents_none {n : Nm} (h : look TV.nm l n = none) : ∀ p ∈ tEnts l, p.1 ≠ tKey n := by
  intro p hp f
  obtain ⟨x, hx, rfl⟩ := List.mem_map.1 hp
  exact look_none.1 h x hx (tKey_inj f)
theorem ents_some {n : Nm} {x : TV} (h : look TV.nm l n = some x) : ∃ i : Nat, l[i]? = some x ∧ (tEnts l)[i]? = some (tKey n, x.val) := by
  obtain ⟨e, hx⟩ := look_name h
  obtain ⟨i, hi⟩ := List.mem_iff_getElem?.1 hx
  exact ⟨i, hi, by simp [tEnts, hi, e]⟩
/-- What a lookup yields: the tenant of that name, or the zero one. -/
def tGet (l : List TV) (n : Nm) : Value := match look TV.nm l n with
  | some x => x.val
  | none => .agg zTen
theorem TMap.look (h : TMap S w b l) (n : Nm) (hn : n.length ≤ 1000000) (c : Bool) : (Instr.lookup 50 (.map (some b)) (tKey n) c).run Try.prog w = .ok (if c then .tuple #[tGet l n, .bool (look TV.nm l n).isSome] else tGet l n) w := by
  unfold tGet
  cases hl : Go.Proofs.Ytkiikbajbikdeaa.look TV.nm l n with
  | none => exact h.gm.look_miss keyedStr Try.underlying50 zeroTen (keyOfStr n hn) (ents_none hl) c
  | some x =>
    obtain ⟨i, _, hi⟩ := ents_some hl
    exact h.gm.look_hit keyedStr Try.underlying50 hi c
theorem TMap.put (h : TMap S w b l) {x : TV} (hx : x.Rows S w) (hS : ¬ S b) (hxn : x.nm.length ≤ 1000000) : ∃ w', (Instr.mapUpdate 50 (.map (some b)) (tKey x.nm) x.val).run Try.prog w = .ok () w' ∧ TMap S w' b (mput TV.nm l x) ∧ Mod (fun j => j = b) w w' := by
  have hr : ∀ {w' : World}, Mod (fun j => j = b) w w' → ∀ y ∈ mput TV.nm l x, y.Rows S w' := fun hm y hy => by
    have hk := hm.keeps (S := S) (fun j _ hs f => hS (by subst f; exact hs))
    rcases mput_sub hy with h1 | rfl
    · exact (h.rows y h1).keeps hk
    · exact hx.keeps hk
  rcases mput_cases (nm := TV.nm) l x with ⟨i, y, hi, he, e⟩ | ⟨hn, e⟩
  · have hi' : (tEnts l)[i]? = some (tKey x.nm, y.val) := by simp [tEnts, hi, he]
    obtain ⟨w', h1, h2, h3, _⟩ := h.gm.put_hit keyedStr Try.underlying50 hi' x.val
    refine ⟨w', h1, ⟨?_, hr h3⟩, h3⟩
    rw [e]
    unfold tEnts at h2 ⊢
    rw [List.map_set]
    exact h2
  · have hn' : ∀ p ∈ tEnts l, p.1 ≠ tKey x.nm := ents_none (look_none.2 hn)
    obtain ⟨w', h1, h2, h3, _⟩ := h.gm.put_miss keyedStr Try.underlying50 (keyOfStr x.nm hxn) hn' x.val
    refine ⟨w', h1, ⟨?_, hr h3⟩, h3⟩
    rw [e]
    unfold tEnts at h2 ⊢
    rw [List.map_append]
    exact h2
theorem erase_del {i : Nat} {y : TV} (hn : (l.map TV.nm).Nodup) (hi : l[i]? = some y) : mdel TV.nm l y.nm = l.eraseIdx i := by
  unfold mdel
  induction l generalizing i with
  | nil => simp at hi
  | cons a r ih =>
    simp only [List.map_cons, List.nodup_cons] at hn
    cases i with
    | zero =>
      simp only [List.getElem?_cons_zero, Option.some.injEq] at hi
      subst hi
      rw [List.eraseIdx_cons_zero, List.filter_cons]
      simp only [ne_eq, not_true_eq_false, decide_false]
      exact List.filter_eq_self.2 (fun z hz => by simpa using fun e => hn.1 (List.mem_map.2 ⟨z, hz, e⟩))
    | succ i =>
      simp only [List.getElem?_cons_succ] at hi
      have ha : a.nm ≠ y.nm := fun e => hn.1 (by rw [e]; exact List.mem_map.2 ⟨y, List.mem_of_getElem? hi, rfl⟩)
      rw [List.eraseIdx_cons_succ, List.filter_cons]
      simp only [ne_eq, ha, not_false_eq_true, decide_true, if_true]
      rw [ih hn.2 hi]
theorem TMap.del (h : TMap S w b l) (n : Nm) (hnl : n.length ≤ 1000000) (hS : ¬ S b) : ∃ w', (∀ ty, (Builtin.delete_ #[50, 9] ty #[.map (some b), tKey n]).run Try.prog w = .ok (.tuple #[]) w') ∧ TMap S w' b (mdel TV.nm l n) ∧ Mod (fun j => j = b) w w' := by
  cases hl : Go.Proofs.Ytkiikbajbikdeaa.look TV.nm l n with
  | none =>
    have e : mdel TV.nm l n = l := List.filter_eq_self.2 (fun z hz => by simpa using look_none.1 hl z hz)
    rw [e]
    exact ⟨w, fun ty => h.gm.del_miss keyedStr Try.underlying50 (keyOfStr n hnl) (ents_none hl) ty, h, Mod.refl _ _⟩
  | some x =>
    obtain ⟨i, hi, hi'⟩ := ents_some hl
    obtain ⟨hxn, _⟩ := look_name hl
    obtain ⟨w', h1, h2, h3, _⟩ := h.gm.del_hit keyedStr Try.underlying50 hi'
    have e : mdel TV.nm l n = l.eraseIdx i := by rw [← hxn]; exact erase_del h.nodup hi
    refine ⟨w', h1, ⟨?_, fun y hy => ?_⟩, h3⟩
    · rw [e]
      unfold tEnts at h2 ⊢
      rw [map_eraseIdx]
      exact h2
    · have hy' : y ∈ l := (List.mem_filter.1 hy).1
      exact (h.rows y hy').keeps (h3.keeps (fun j _ hs f => hS (by subst f; exact hs)))
end
/-! ### named -/
theorem firsts_take (l : List TV) {k : Nat} {x : TV} (h : l[k]? = some x) : firsts TV.nm (l.take (k + 1)) = addFirst (nm := TV.nm) (firsts TV.nm (l.take k)) x := by
  obtain ⟨hl, e⟩ := List.getElem?_eq_some_iff.1 h
  unfold firsts
  rw [List.take_succ_eq_append_getElem hl, e, List.foldl_append]
  rfl
theorem addFirst_hit {l : List TV} {x : TV} (h : (look TV.nm l x.nm).isSome = true) : addFirst (nm := TV.nm) l x = l := by
  unfold addFirst
  rw [if_pos]
  rw [any_look]
  intro f
  rw [f] at h
  cases h
theorem addFirst_miss {l : List TV} {x : TV} (h : (look TV.nm l x.nm).isSome = false) : addFirst (nm := TV.nm) l x = l ++ [x] ∧ mput TV.nm l x = l ++ [x] := by
  have hn : look TV.nm l x.nm = none := by cases h2 : look TV.nm l x.nm with
    | none => rfl
    | some y => rw [h2] at h; cases h
  constructor
  · unfold addFirst
    rw [if_neg]
    rw [any_look]
    exact fun f => f hn
  · rcases mput_cases (nm := TV.nm) l x with ⟨i, y, hi, he, e⟩ | ⟨_, e⟩
    · exact absurd he (look_none.1 hn y (List.mem_of_getElem? hi))
    · exact e
theorem named_ok {S : Nat → Prop} {w : World} {A : Option Addr} {c n : Nat} (l : List TV) (hA : TVl S w A l) (hn : n = l.length) (hl : l.length ≤ 1000000) (hsm : ∀ x ∈ l, x.Small) (hS : ∀ b, w.heap.size ≤ b → ¬ S b) :
    Calls Try.prog 22 #[.slice A n c] w fun e w' => e = .returned (.map (some w.heap.size)) ∧ TMap S w' w.heap.size (firsts TV.nm l) ∧ Mod No w w' := by
  obtain ⟨b, hb⟩ : ∃ b, b = w.heap.size := ⟨_, rfl⟩
  have hmk := @run_makeMap Try.prog
  rw [← hb]
  have HA := Lib.hid hA
  have HN := Lib.hid hn
  have HS := Lib.hid hS
  have HB := Lib.hid hb
  have HSM := Lib.hid hsm
  have hn1 : n ≤ 1000000 := by omega
  clear hA hn hS hl hsm
  go_enter Try.func22, Try.ntmps22
  go_wp2
  rw [← hb]
  clear hb
  go_loopw [11] (fun i wr => ∃ k : Nat, i = .int .i64 k ∧ k ≤ n ∧ TMap S wr b (firsts TV.nm (l.take k)) ∧ Mod No w wr) (fun i _ => n - (intOf i).toNat)
  case atStart =>
    have hb := HB.out
    subst hb
    exact ⟨0, rfl, by omega, ⟨GMap.new _ _ _, by simp [firsts]⟩, (Mod.refl _ _).alloc _⟩
  case round =>
    obtain ⟨k, rfl, hk, hT, hM⟩ := hrel
    by_cases hlt : k < n
    · obtain ⟨x, hx⟩ : ∃ x : TV, l[k]? = some x := ⟨l[k]'(by have := HN.out; omega), List.getElem?_eq_getElem (by have := HN.out; omega)⟩
      have hxl : x ∈ l := List.mem_of_getElem? hx
      have hA' := HA.out.keeps (hM.keeps (fun _ _ _ f => f))
      obtain ⟨a, o, rfl, has, hal, hcell⟩ := RowAt.elem TV.cells 33 TV.len (by decide) hA'.1 hx
      have hxs := HSM.out x hxl
      have hxr := hA'.2 x hxl
      have f1 := tenLoad_mid wr a (o + k * 33) x.cells x.len hcell
      have hone := TV.one hxr
      obtain ⟨CA, hCA⟩ : ∃ CA, CA = x.cells.toArray := ⟨_, rfl⟩
      rw [← hCA] at f1 hone
      have hCs : CA.size = 33 := by rw [hCA]; rfl
      have f2 := tenAlloc_run wr
      have f3 := tenStore_new wr CA hCs hone
      have hv : x.val = .agg CA := by rw [hCA]; rfl
      have m1 : Mod No wr (wr.alloc (.cells CA 34)) := (Mod.refl _ _).alloc _
      have hT1 := hT.mod m1 (fun f => f) (fun _ _ f => f)
      obtain ⟨K, hK⟩ : ∃ K, K = tKey x.nm := ⟨_, rfl⟩
      have hk0 : CA[0]? = some K := by rw [hCA, hK]; simp [TV.cells, Ten.cells, tKey, TV.nm]
      have f4 : (wr.alloc (.cells CA 34)).cell? ⟨wr.heap.size, 0, none⟩ = some K := (blk_cell (at10 wr _) 0).trans hk0
      have f5 := hT1.look x.nm hxs.2.2.2 true
      simp only [if_true] at f5
      obtain ⟨CV, hCV, hCVs, hCVo⟩ : ∃ CV, tGet (firsts TV.nm (l.take k)) x.nm = .agg CV ∧ CV.size = 33 ∧ CV.all (·.oneCell') = true := by
        unfold tGet
        cases hl : look TV.nm (firsts TV.nm (l.take k)) x.nm with
        | none => exact ⟨zTen, rfl, rfl, ten_one _ _ _ _ _ _ _ _ _ _⟩
        | some y => exact ⟨_, rfl, rfl, TV.one (hT.rows y (look_name hl).2)⟩
      rw [hCV, ← hK] at f5
      have hz1 : (wr.alloc (.cells CA 34)).heap.size = wr.heap.size + 1 := by simp
      have f6 := tenAlloc_run (wr.alloc (.cells CA 34))
      have f7 := tenStore_new (wr.alloc (.cells CA 34)) CV hCVs hCVo
      rw [hz1] at f6 f7
      have f8 : ((wr.alloc (.cells CA 34)).alloc (.cells CV 34)).cell? ⟨wr.heap.size, 0, none⟩ = some K := (blk_cell (at20 wr _ _) 0).trans hk0
      have f9 := tenLoad_run (at20 wr (.cells CA 34) (.cells CV 34)) hCs
      have m2 : Mod No wr ((wr.alloc (.cells CA 34)).alloc (.cells CV 34)) := m1.alloc _
      have hT2 := hT.mod m2 (fun f => f) (fun _ _ f => f)
      have hbS : ¬ S b := HS.out b (by have := HB.out; omega)
      obtain ⟨w3, f10, hT3, hM3⟩ := hT2.put (x := x) (hxr.keeps (m2.keeps (fun _ _ _ f => f))) hbS hxs.2.2.2
      rw [hv, ← hK] at f10
      have HX := Lib.hid hx
      have HT2 := Lib.hid hT2
      have HT3 := Lib.hid hT3
      have HM2 := Lib.hid (hM.trans m2)
      have HM3 := Lib.hid hM3
      clear hx hxl hA' hcell hxs hxr hone hCA hCs hv m1 hT1 hK hk0 hCV hCVs hCVo hz1 m2 hT2 hT3 hM3 has hT hM hbS
      cases hr : (look TV.nm (firsts TV.nm (l.take k)) x.nm).isSome with
      | true =>
        rw [hr] at f5
        have HR := Lib.hid hr
        clear hr
        go_wp2
        exact ⟨⟨k + 1, by go_num, by omega, by rw [firsts_take l HX.out, addFirst_hit HR.out]; exact HT2.out, HM2.out⟩, by simp [intOf]; omega⟩
      | false =>
        rw [hr] at f5
        have HR := Lib.hid hr
        clear hr
        go_wp2
        exact ⟨⟨k + 1, by go_num, by omega, by rw [firsts_take l HX.out, (addFirst_miss HR.out).1, ← (addFirst_miss HR.out).2]; exact HT3.out, HM2.out.trans' HM3.out (fun i hi f => by have := HB.out; omega)⟩, by simp [intOf]; omega⟩
    · have hkn : k = n := by omega
      have HT := Lib.hid hT
      have HM := Lib.hid hM
      clear hT hM
      subst hkn
      go_wp2
      go_ret
      have := HT.out
      rw [List.take_of_length_le (by have := HN.out; omega)] at this
      exact ⟨rfl, this, HM.out⟩
end

end Go.Proofs.Ytkiikbajbikdeaa
