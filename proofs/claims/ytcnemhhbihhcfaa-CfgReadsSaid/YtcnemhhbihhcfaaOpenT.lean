/-
  From an argument's reading to what the walks ask: a tenant. Ours.
  Conditions: none.
-/
import Derived.Test.YtcnemhhbihhcfaaCfgG
import Derived.Test.YtcnemhhbihhcfaaOpen
import Derived.OpenShut
namespace Go.Proofs.Ytcnemhhbihhcfaa
open Go.ChangeShapes Go.WideShapes Go.ChangeAt Go.RowKit Go.Deep
set_option linter.unusedVariables false

variable {H : Type} {enc : TypeId × Value → H} {w : World}

/-- A tenant's numbers are numbers of their types. -/
structure Ten.wf (t : Ten) : Prop where
  vni : t.vni < 4294967296
  vtep : t.vtep < 4294967296
  pool : ∀ x ∈ t.pool, x < 4294967296
  lo : t.lo < 65536
  hi : t.hi < 65536
  filter : (Lit.int .i64 t.filter).wf = true
  statics : ∀ p ∈ t.statics, p.a < 4294967296 ∧ p.b < 4294967296
  twices : ∀ p ∈ t.twices, p.a < 4294967296 ∧ p.b < 4294967296
  sess : (Lit.int .i64 t.sess).wf = true
  queue : (Lit.int .i64 t.queue).wf = true
  rate : t.rate < 4294967296
  burst : t.burst < 4294967296

theorem trod_str {P : Program} {t : TypeId} {fuel : Nat} {cs : List Value} {x : DataW H × List MemPlace} {base : Nat} {spare : Nat → Bool} {held : Bool} (ht : P.underlying t = some .string) (h : DataW.trod enc P w base spare held fuel t cs = some x) : ∃ s, cs = [.string s] := by
  cases fuel with
  | zero => simp [DataW.trod] at h
  | succ n =>
    unfold DataW.trod at h
    rw [ht] at h
    split at h <;> simp_all
theorem nat_of_u32 {z : Int} (h : (Lit.int .u32 z).wf = true) : ∃ n : Nat, z = n ∧ n < 4294967296 := ⟨z.toNat, by
  have : 0 ≤ z ∧ z ≤ 4294967295 := by simpa [Lit.wf, IntKind.min, IntKind.max, IntKind.signed, IntKind.bits] using h
  omega⟩
theorem nat_of_u16 {z : Int} (h : (Lit.int .u16 z).wf = true) : ∃ n : Nat, z = n ∧ n < 65536 := ⟨z.toNat, by
  have : 0 ≤ z ∧ z ≤ 65535 := by simpa [Lit.wf, IntKind.min, IntKind.max, IntKind.signed, IntKind.bits] using h
  omega⟩
theorem byte_of_u8 {z : Int} (h : (Lit.int .u8 z).wf = true) : ∃ b : UInt8, z = (b.toNat : Int) := by
  have : 0 ≤ z ∧ z ≤ 255 := by simpa [Lit.wf, IntKind.min, IntKind.max, IntKind.signed, IntKind.bits] using h
  refine ⟨UInt8.ofNat z.toNat, ?_⟩
  rw [UInt8.toNat_ofNat']
  omega
theorem co5 : Try.prog.cellsOf 5 = 1 := by kernel_rfl
theorem coU32 : Try.prog.cellsOf 22 = 1 := by kernel_rfl
theorem coPr : Try.prog.cellsOf 70 = 2 := by kernel_rfl
theorem coTen : Try.prog.cellsOf 30 = 33 := by kernel_rfl
theorem open_u32 {fuel : Nat} {c : Value} {x : DataW H × List MemPlace} (h : DataW.trod enc Try.prog w 0 (fun _ => true) true fuel 22 [c] = some x) : ∃ n : Nat, c = .int .u32 (n : Int) ∧ n < 4294967296 := by
  obtain ⟨z, hz, _, hw⟩ := DataW.trod_int Try.underlying22 h
  obtain ⟨n, rfl, hn⟩ := nat_of_u32 hw
  cases hz
  exact ⟨n, rfl, hn⟩
theorem open_u16 {fuel : Nat} {c : Value} {x : DataW H × List MemPlace} (h : DataW.trod enc Try.prog w 0 (fun _ => true) true fuel 27 [c] = some x) : ∃ n : Nat, c = .int .u16 (n : Int) ∧ n < 65536 := by
  obtain ⟨z, hz, _, hw⟩ := DataW.trod_int Try.underlying27 h
  obtain ⟨n, rfl, hn⟩ := nat_of_u16 hw
  cases hz
  exact ⟨n, rfl, hn⟩
theorem open_i64 {fuel : Nat} {c : Value} {x : DataW H × List MemPlace} (h : DataW.trod enc Try.prog w 0 (fun _ => true) true fuel 3 [c] = some x) : ∃ n : Int, c = .int .i64 n ∧ (Lit.int .i64 n).wf = true := by
  obtain ⟨z, hz, _, hw⟩ := DataW.trod_int Try.underlying3 h
  cases hz
  exact ⟨z, rfl, hw⟩
theorem open_u8 {fuel : Nat} {c : Value} {x : DataW H × List MemPlace} (h : DataW.trod enc Try.prog w 0 (fun _ => true) true fuel 5 [c] = some x) : ∃ b : UInt8, c = .int .u8 (b.toNat : Int) := by
  obtain ⟨z, hz, _, hw⟩ := DataW.trod_int Try.underlying5 h
  obtain ⟨n, rfl⟩ := byte_of_u8 hw
  cases hz
  exact ⟨n, rfl⟩
/-- An array of bytes: each of its cells. -/
theorem open_arr {t : TypeId} {n fuel : Nat} {cs : List Value} {x : DataW H × List MemPlace} (ht : Try.prog.underlying t = some (.array n 5)) (h : DataW.trod enc Try.prog w 0 (fun _ => true) true fuel t cs = some x) : ∀ i c, i < n → cs[i]? = some c → ∃ b : UInt8, c = .int .u8 (b.toNat : Int) := by
  obtain ⟨xs, m, _, _, _, hl, hx⟩ := DataW.trod_array ht h
  intro i c hi hc
  have h1 := hx i hi
  rw [co5, Nat.mul_one] at h1
  have h2 : (cs.drop i).take 1 = [c] := by
    have hlt := (List.getElem?_eq_some_iff.1 hc).1
    rw [List.drop_eq_getElem_cons hlt, (List.getElem?_eq_some_iff.1 hc).2]
    rfl
  rw [h2, List.getElem?_eq_getElem (by omega)] at h1
  exact open_u8 h1
theorem open_nums {fuel : Nat} {c : Value} {x : DataW H × List MemPlace} (h : DataW.trod enc Try.prog w 0 (fun _ => true) true fuel 26 [c] = some x) : ∃ (A : Option Addr) (k : Nat) (l : List Nat), c = .slice A l.length k ∧ RowAt (fun _ => True) w A (numCells l) ∧ ∀ x ∈ l, x < 4294967296 := by
  obtain ⟨A, n, k, rfl⟩ : ∃ A n k, c = .slice A n k := by
    rcases open_ints Try.underlying26 Try.underlying22 coU32 h with ⟨hcs, _⟩ | ⟨a, len', cap', zs, hcs, _⟩
    · cases hcs; exact ⟨_, _, _, rfl⟩
    · cases hcs; exact ⟨_, _, _, rfl⟩
  obtain ⟨zs, hz, _, hrow, hw⟩ := open_row_ints Try.underlying26 Try.underlying22 coU32 h
  refine ⟨A, k, zs.map (·.toNat), by rw [List.length_map, hz], ?_, fun x hx => by
    obtain ⟨z, hz, rfl⟩ := List.mem_map.1 hx
    obtain ⟨n, rfl, hn⟩ := nat_of_u32 (hw z hz)
    simpa using hn⟩
  have e : numCells (zs.map (·.toNat)) = zs.map fun z => .int .u32 z := by
    simp only [numCells, List.map_map]
    refine List.map_congr_left fun z hz => ?_
    obtain ⟨n, rfl, _⟩ := nat_of_u32 (hw z hz)
    simp
  rw [e]
  exact hrow
set_option maxRecDepth 100000 in
theorem open_prs {fuel : Nat} {c : Value} {x : DataW H × List MemPlace} (h : DataW.trod enc Try.prog w 0 (fun _ => true) true fuel 28 [c] = some x) : ∃ (A : Option Addr) (k : Nat) (l : List Pr), c = .slice A l.length k ∧ RowAt (fun _ => True) w A (prCells l) ∧ ∀ p ∈ l, p.a < 4294967296 ∧ p.b < 4294967296 := by
  rcases open_slice_pairs Try.underlying28 Try.underlying70 coPr rfl rfl coU32 coU32 h with ⟨hcs, hx⟩ | ⟨a, len, cap, m, n, V0, V1, D0, D1, P0, P1, hcs, _, hl, hm, hmm, _, hx⟩
  · cases hcs
    exact ⟨none, 0, [], rfl, .nil _ _ _, by simp⟩
  · cases hcs
    simp only [if_true] at hmm
    have hv : ∀ i, i < len → ∃ p : Pr, V0 i = .int .u32 (p.a : Int) ∧ V1 i = .int .u32 (p.b : Int) ∧ p.a < 4294967296 ∧ p.b < 4294967296 := by
      intro i hi
      obtain ⟨_, _, h2, h3⟩ := hx i (by omega)
      obtain ⟨n0, e0, b0⟩ := open_u32 h2
      obtain ⟨n1, e1, b1⟩ := open_u32 h3
      exact ⟨⟨n0, n1⟩, e0, e1, b0, b1⟩
    obtain ⟨g, hg⟩ : ∃ g : Nat → Pr, ∀ i, i < len → V0 i = .int .u32 ((g i).a : Int) ∧ V1 i = .int .u32 ((g i).b : Int) ∧ (g i).a < 4294967296 ∧ (g i).b < 4294967296 :=
      ⟨fun i => if h : i < len then (hv i h).choose else default, fun i hi => by simp only [hi, dif_pos]; exact (hv i hi).choose_spec⟩
    refine ⟨some a, cap, (List.range len).map g, by simp, ?_, fun p hp => by
      obtain ⟨i, hi, rfl⟩ := List.mem_map.1 hp
      exact (hg i (by simpa using hi)).2.2⟩
    by_cases h0 : len = 0
    · subst h0
      exact .nil _ _ _
    · obtain ⟨b, o, spot⟩ := a
      have hs : spot = none := by
        obtain ⟨h1, _⟩ := hx 0 (by omega)
        simpa [Addr.add] using World.cell?_spot h1
      subst hs
      refine .inr ⟨b, o, rfl, trivial, fun j v hj => ?_⟩
      have hjl := (List.getElem?_eq_some_iff.1 hj).1
      rw [prCells_length, List.length_map, List.length_range] at hjl
      have hi : j / 2 < len := by omega
      have hr : ((List.range len).map g)[j / 2]? = some (g (j / 2)) := by simp [hi]
      have hf := flat_at Pr.cells 2 Pr.cells_length _ (j / 2) (j % 2) _ hr (by omega)
      rw [show j / 2 * 2 + j % 2 = j by omega] at hf
      have hj' : (g (j / 2)).cells[j % 2]? = some v := by rw [← hf]; exact hj
      obtain ⟨h1, h2, _, _⟩ := hx (j / 2) (by omega)
      rw [(hg _ hi).1] at h1
      rw [(hg _ hi).2.1] at h2
      rw [Addr.add_lit] at h1 h2
      have hm2 : j % 2 = 0 ∨ j % 2 = 1 := by omega
      rcases hm2 with e | e
      · rw [e] at hj'
        simp only [Pr.cells, List.getElem?_cons_zero, Option.some.injEq] at hj'
        rw [← hj', show o + j = o + j / 2 * 2 by omega]
        exact h1
      · rw [e] at hj'
        simp only [Pr.cells, List.getElem?_cons_succ, List.getElem?_cons_zero, Option.some.injEq] at hj'
        rw [← hj', show o + j = o + (j / 2 * 2 + 1) by omega]
        exact h2

theorem coStr : Try.prog.cellsOf 9 = 1 := by kernel_rfl
theorem coK8 : Try.prog.cellsOf 23 = 8 := by kernel_rfl
theorem coM6 : Try.prog.cellsOf 25 = 6 := by kernel_rfl
theorem coLU : Try.prog.cellsOf 26 = 1 := by kernel_rfl
theorem coU16 : Try.prog.cellsOf 27 = 1 := by kernel_rfl
theorem coI : Try.prog.cellsOf 3 = 1 := by kernel_rfl
theorem coLP : Try.prog.cellsOf 28 = 1 := by kernel_rfl
theorem list33 {α : Type} : ∀ (l : List α), l.length = 33 → ∃ c0 c1 c2 c3 c4 c5 c6 c7 c8 c9 c10 c11 c12 c13 c14 c15 c16 c17 c18 c19 c20 c21 c22 c23 c24 c25 c26 c27 c28 c29 c30 c31 c32, l = [c0, c1, c2, c3, c4, c5, c6, c7, c8, c9, c10, c11, c12, c13, c14, c15, c16, c17, c18, c19, c20, c21, c22, c23, c24, c25, c26, c27, c28, c29, c30, c31, c32]
  | c0 :: c1 :: c2 :: c3 :: c4 :: c5 :: c6 :: c7 :: c8 :: c9 :: c10 :: c11 :: c12 :: c13 :: c14 :: c15 :: c16 :: c17 :: c18 :: c19 :: c20 :: c21 :: c22 :: c23 :: c24 :: c25 :: c26 :: c27 :: c28 :: c29 :: c30 :: c31 :: c32 :: [], _ => ⟨c0, c1, c2, c3, c4, c5, c6, c7, c8, c9, c10, c11, c12, c13, c14, c15, c16, c17, c18, c19, c20, c21, c22, c23, c24, c25, c26, c27, c28, c29, c30, c31, c32, rfl⟩

set_option maxRecDepth 100000 in
set_option maxHeartbeats 2000000 in
theorem open_ten {fuel : Nat} {cs : List Value} {x : DataW H × List MemPlace} (h : DataW.trod enc Try.prog w 0 (fun _ => true) true fuel 30 cs = some x) : ∃ t : Ten, TenV (fun _ => True) w t (.agg cs.toArray) ∧ t.wf := by
  obtain ⟨xs, n, _, _, hl, hlen, hf⟩ := DataW.trod_struct Try.underlying30 h
  rw [coTen] at hl
  obtain ⟨c0, c1, c2, c3, c4, c5, c6, c7, c8, c9, c10, c11, c12, c13, c14, c15, c16, c17, c18, c19, c20, c21, c22, c23, c24, c25, c26, c27, c28, c29, c30, c31, c32, rfl⟩ := list33 cs hl
  have hg : ∀ i, i < 16 → ∃ y, xs[i]? = some y := fun i hi => ⟨_, List.getElem?_eq_getElem (by rw [hlen]; exact hi)⟩
  obtain ⟨y0, hy0⟩ := hg 0 (by decide)
  have t0 : DataW.trod enc Try.prog w 0 (fun _ => true) true n 9 [c0] = some y0 := by
    have : DataW.trod enc Try.prog w 0 (fun _ => true) true n 9 ((List.drop 0 [c0, c1, c2, c3, c4, c5, c6, c7, c8, c9, c10, c11, c12, c13, c14, c15, c16, c17, c18, c19, c20, c21, c22, c23, c24, c25, c26, c27, c28, c29, c30, c31, c32]).take (Try.prog.cellsOf 9)) = xs[0]? := hf 0 _ rfl
    rw [hy0] at this
    rw [coStr] at this
    exact this
  obtain ⟨y1, hy1⟩ := hg 1 (by decide)
  have t1 : DataW.trod enc Try.prog w 0 (fun _ => true) true n 22 [c1] = some y1 := by
    have : DataW.trod enc Try.prog w 0 (fun _ => true) true n 22 ((List.drop 1 [c0, c1, c2, c3, c4, c5, c6, c7, c8, c9, c10, c11, c12, c13, c14, c15, c16, c17, c18, c19, c20, c21, c22, c23, c24, c25, c26, c27, c28, c29, c30, c31, c32]).take (Try.prog.cellsOf 22)) = xs[1]? := hf 1 _ rfl
    rw [hy1] at this
    rw [coU32] at this
    exact this
  obtain ⟨y2, hy2⟩ := hg 2 (by decide)
  have t2 : DataW.trod enc Try.prog w 0 (fun _ => true) true n 23 [c2, c3, c4, c5, c6, c7, c8, c9] = some y2 := by
    have : DataW.trod enc Try.prog w 0 (fun _ => true) true n 23 ((List.drop 2 [c0, c1, c2, c3, c4, c5, c6, c7, c8, c9, c10, c11, c12, c13, c14, c15, c16, c17, c18, c19, c20, c21, c22, c23, c24, c25, c26, c27, c28, c29, c30, c31, c32]).take (Try.prog.cellsOf 23)) = xs[2]? := hf 2 _ rfl
    rw [hy2] at this
    rw [coK8] at this
    exact this
  obtain ⟨y3, hy3⟩ := hg 3 (by decide)
  have t3 : DataW.trod enc Try.prog w 0 (fun _ => true) true n 22 [c10] = some y3 := by
    have : DataW.trod enc Try.prog w 0 (fun _ => true) true n 22 ((List.drop 10 [c0, c1, c2, c3, c4, c5, c6, c7, c8, c9, c10, c11, c12, c13, c14, c15, c16, c17, c18, c19, c20, c21, c22, c23, c24, c25, c26, c27, c28, c29, c30, c31, c32]).take (Try.prog.cellsOf 22)) = xs[3]? := hf 3 _ rfl
    rw [hy3] at this
    rw [coU32] at this
    exact this
  obtain ⟨y4, hy4⟩ := hg 4 (by decide)
  have t4 : DataW.trod enc Try.prog w 0 (fun _ => true) true n 25 [c11, c12, c13, c14, c15, c16] = some y4 := by
    have : DataW.trod enc Try.prog w 0 (fun _ => true) true n 25 ((List.drop 11 [c0, c1, c2, c3, c4, c5, c6, c7, c8, c9, c10, c11, c12, c13, c14, c15, c16, c17, c18, c19, c20, c21, c22, c23, c24, c25, c26, c27, c28, c29, c30, c31, c32]).take (Try.prog.cellsOf 25)) = xs[4]? := hf 4 _ rfl
    rw [hy4] at this
    rw [coM6] at this
    exact this
  obtain ⟨y5, hy5⟩ := hg 5 (by decide)
  have t5 : DataW.trod enc Try.prog w 0 (fun _ => true) true n 25 [c17, c18, c19, c20, c21, c22] = some y5 := by
    have : DataW.trod enc Try.prog w 0 (fun _ => true) true n 25 ((List.drop 17 [c0, c1, c2, c3, c4, c5, c6, c7, c8, c9, c10, c11, c12, c13, c14, c15, c16, c17, c18, c19, c20, c21, c22, c23, c24, c25, c26, c27, c28, c29, c30, c31, c32]).take (Try.prog.cellsOf 25)) = xs[5]? := hf 5 _ rfl
    rw [hy5] at this
    rw [coM6] at this
    exact this
  obtain ⟨y6, hy6⟩ := hg 6 (by decide)
  have t6 : DataW.trod enc Try.prog w 0 (fun _ => true) true n 26 [c23] = some y6 := by
    have : DataW.trod enc Try.prog w 0 (fun _ => true) true n 26 ((List.drop 23 [c0, c1, c2, c3, c4, c5, c6, c7, c8, c9, c10, c11, c12, c13, c14, c15, c16, c17, c18, c19, c20, c21, c22, c23, c24, c25, c26, c27, c28, c29, c30, c31, c32]).take (Try.prog.cellsOf 26)) = xs[6]? := hf 6 _ rfl
    rw [hy6] at this
    rw [coLU] at this
    exact this
  obtain ⟨y7, hy7⟩ := hg 7 (by decide)
  have t7 : DataW.trod enc Try.prog w 0 (fun _ => true) true n 27 [c24] = some y7 := by
    have : DataW.trod enc Try.prog w 0 (fun _ => true) true n 27 ((List.drop 24 [c0, c1, c2, c3, c4, c5, c6, c7, c8, c9, c10, c11, c12, c13, c14, c15, c16, c17, c18, c19, c20, c21, c22, c23, c24, c25, c26, c27, c28, c29, c30, c31, c32]).take (Try.prog.cellsOf 27)) = xs[7]? := hf 7 _ rfl
    rw [hy7] at this
    rw [coU16] at this
    exact this
  obtain ⟨y8, hy8⟩ := hg 8 (by decide)
  have t8 : DataW.trod enc Try.prog w 0 (fun _ => true) true n 27 [c25] = some y8 := by
    have : DataW.trod enc Try.prog w 0 (fun _ => true) true n 27 ((List.drop 25 [c0, c1, c2, c3, c4, c5, c6, c7, c8, c9, c10, c11, c12, c13, c14, c15, c16, c17, c18, c19, c20, c21, c22, c23, c24, c25, c26, c27, c28, c29, c30, c31, c32]).take (Try.prog.cellsOf 27)) = xs[8]? := hf 8 _ rfl
    rw [hy8] at this
    rw [coU16] at this
    exact this
  obtain ⟨y9, hy9⟩ := hg 9 (by decide)
  have t9 : DataW.trod enc Try.prog w 0 (fun _ => true) true n 3 [c26] = some y9 := by
    have : DataW.trod enc Try.prog w 0 (fun _ => true) true n 3 ((List.drop 26 [c0, c1, c2, c3, c4, c5, c6, c7, c8, c9, c10, c11, c12, c13, c14, c15, c16, c17, c18, c19, c20, c21, c22, c23, c24, c25, c26, c27, c28, c29, c30, c31, c32]).take (Try.prog.cellsOf 3)) = xs[9]? := hf 9 _ rfl
    rw [hy9] at this
    rw [coI] at this
    exact this
  obtain ⟨y10, hy10⟩ := hg 10 (by decide)
  have t10 : DataW.trod enc Try.prog w 0 (fun _ => true) true n 28 [c27] = some y10 := by
    have : DataW.trod enc Try.prog w 0 (fun _ => true) true n 28 ((List.drop 27 [c0, c1, c2, c3, c4, c5, c6, c7, c8, c9, c10, c11, c12, c13, c14, c15, c16, c17, c18, c19, c20, c21, c22, c23, c24, c25, c26, c27, c28, c29, c30, c31, c32]).take (Try.prog.cellsOf 28)) = xs[10]? := hf 10 _ rfl
    rw [hy10] at this
    rw [coLP] at this
    exact this
  obtain ⟨y11, hy11⟩ := hg 11 (by decide)
  have t11 : DataW.trod enc Try.prog w 0 (fun _ => true) true n 28 [c28] = some y11 := by
    have : DataW.trod enc Try.prog w 0 (fun _ => true) true n 28 ((List.drop 28 [c0, c1, c2, c3, c4, c5, c6, c7, c8, c9, c10, c11, c12, c13, c14, c15, c16, c17, c18, c19, c20, c21, c22, c23, c24, c25, c26, c27, c28, c29, c30, c31, c32]).take (Try.prog.cellsOf 28)) = xs[11]? := hf 11 _ rfl
    rw [hy11] at this
    rw [coLP] at this
    exact this
  obtain ⟨y12, hy12⟩ := hg 12 (by decide)
  have t12 : DataW.trod enc Try.prog w 0 (fun _ => true) true n 3 [c29] = some y12 := by
    have : DataW.trod enc Try.prog w 0 (fun _ => true) true n 3 ((List.drop 29 [c0, c1, c2, c3, c4, c5, c6, c7, c8, c9, c10, c11, c12, c13, c14, c15, c16, c17, c18, c19, c20, c21, c22, c23, c24, c25, c26, c27, c28, c29, c30, c31, c32]).take (Try.prog.cellsOf 3)) = xs[12]? := hf 12 _ rfl
    rw [hy12] at this
    rw [coI] at this
    exact this
  obtain ⟨y13, hy13⟩ := hg 13 (by decide)
  have t13 : DataW.trod enc Try.prog w 0 (fun _ => true) true n 3 [c30] = some y13 := by
    have : DataW.trod enc Try.prog w 0 (fun _ => true) true n 3 ((List.drop 30 [c0, c1, c2, c3, c4, c5, c6, c7, c8, c9, c10, c11, c12, c13, c14, c15, c16, c17, c18, c19, c20, c21, c22, c23, c24, c25, c26, c27, c28, c29, c30, c31, c32]).take (Try.prog.cellsOf 3)) = xs[13]? := hf 13 _ rfl
    rw [hy13] at this
    rw [coI] at this
    exact this
  obtain ⟨y14, hy14⟩ := hg 14 (by decide)
  have t14 : DataW.trod enc Try.prog w 0 (fun _ => true) true n 22 [c31] = some y14 := by
    have : DataW.trod enc Try.prog w 0 (fun _ => true) true n 22 ((List.drop 31 [c0, c1, c2, c3, c4, c5, c6, c7, c8, c9, c10, c11, c12, c13, c14, c15, c16, c17, c18, c19, c20, c21, c22, c23, c24, c25, c26, c27, c28, c29, c30, c31, c32]).take (Try.prog.cellsOf 22)) = xs[14]? := hf 14 _ rfl
    rw [hy14] at this
    rw [coU32] at this
    exact this
  obtain ⟨y15, hy15⟩ := hg 15 (by decide)
  have t15 : DataW.trod enc Try.prog w 0 (fun _ => true) true n 22 [c32] = some y15 := by
    have : DataW.trod enc Try.prog w 0 (fun _ => true) true n 22 ((List.drop 32 [c0, c1, c2, c3, c4, c5, c6, c7, c8, c9, c10, c11, c12, c13, c14, c15, c16, c17, c18, c19, c20, c21, c22, c23, c24, c25, c26, c27, c28, c29, c30, c31, c32]).take (Try.prog.cellsOf 22)) = xs[15]? := hf 15 _ rfl
    rw [hy15] at this
    rw [coU32] at this
    exact this
  clear hf hg h hl hlen
  obtain ⟨s, hs⟩ := trod_str Try.underlying9 t0
  cases hs
  obtain ⟨vni, rfl, bvni⟩ := open_u32 t1
  obtain ⟨key0, rfl⟩ := open_arr Try.underlying23 t2 0 _ (by decide) rfl
  obtain ⟨key1, rfl⟩ := open_arr Try.underlying23 t2 1 _ (by decide) rfl
  obtain ⟨key2, rfl⟩ := open_arr Try.underlying23 t2 2 _ (by decide) rfl
  obtain ⟨key3, rfl⟩ := open_arr Try.underlying23 t2 3 _ (by decide) rfl
  obtain ⟨key4, rfl⟩ := open_arr Try.underlying23 t2 4 _ (by decide) rfl
  obtain ⟨key5, rfl⟩ := open_arr Try.underlying23 t2 5 _ (by decide) rfl
  obtain ⟨key6, rfl⟩ := open_arr Try.underlying23 t2 6 _ (by decide) rfl
  obtain ⟨key7, rfl⟩ := open_arr Try.underlying23 t2 7 _ (by decide) rfl
  obtain ⟨vtep, rfl, bvtep⟩ := open_u32 t3
  obtain ⟨vmac0, rfl⟩ := open_arr Try.underlying25 t4 0 _ (by decide) rfl
  obtain ⟨vmac1, rfl⟩ := open_arr Try.underlying25 t4 1 _ (by decide) rfl
  obtain ⟨vmac2, rfl⟩ := open_arr Try.underlying25 t4 2 _ (by decide) rfl
  obtain ⟨vmac3, rfl⟩ := open_arr Try.underlying25 t4 3 _ (by decide) rfl
  obtain ⟨vmac4, rfl⟩ := open_arr Try.underlying25 t4 4 _ (by decide) rfl
  obtain ⟨vmac5, rfl⟩ := open_arr Try.underlying25 t4 5 _ (by decide) rfl
  obtain ⟨host0, rfl⟩ := open_arr Try.underlying25 t5 0 _ (by decide) rfl
  obtain ⟨host1, rfl⟩ := open_arr Try.underlying25 t5 1 _ (by decide) rfl
  obtain ⟨host2, rfl⟩ := open_arr Try.underlying25 t5 2 _ (by decide) rfl
  obtain ⟨host3, rfl⟩ := open_arr Try.underlying25 t5 3 _ (by decide) rfl
  obtain ⟨host4, rfl⟩ := open_arr Try.underlying25 t5 4 _ (by decide) rfl
  obtain ⟨host5, rfl⟩ := open_arr Try.underlying25 t5 5 _ (by decide) rfl
  obtain ⟨P, p, pool, rfl, rP, bpool⟩ := open_nums t6
  obtain ⟨lo, rfl, blo⟩ := open_u16 t7
  obtain ⟨hi, rfl, bhi⟩ := open_u16 t8
  obtain ⟨filter, rfl, bfilter⟩ := open_i64 t9
  obtain ⟨Q, q, statics, rfl, rQ, bstatics⟩ := open_prs t10
  obtain ⟨R, r, twices, rfl, rR, btwices⟩ := open_prs t11
  obtain ⟨sess, rfl, bsess⟩ := open_i64 t12
  obtain ⟨queue, rfl, bqueue⟩ := open_i64 t13
  obtain ⟨rate, rfl, brate⟩ := open_u32 t14
  obtain ⟨burst, rfl, bburst⟩ := open_u32 t15
  exact ⟨⟨s.data.toList, vni, ⟨key0, key1, key2, key3, key4, key5, key6, key7⟩, vtep, ⟨vmac0, vmac1, vmac2, vmac3, vmac4, vmac5⟩, ⟨host0, host1, host2, host3, host4, host5⟩, pool, lo, hi, filter, statics, twices, sess, queue, rate, burst⟩, ⟨P, p, Q, q, R, r, rfl, rP, rQ, rR⟩, ⟨bvni, bvtep, bpool, blo, bhi, bfilter, bstatics, btwices, bsess, bqueue, brate, bburst⟩⟩

end Go.Proofs.Ytcnemhhbihhcfaa
