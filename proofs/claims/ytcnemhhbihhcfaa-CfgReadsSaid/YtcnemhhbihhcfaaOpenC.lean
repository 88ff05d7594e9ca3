/-
  From an argument's reading to what the walks ask: settings, a change, a list of tenants, bytes. Ours.
  Conditions: none.
-/
import Derived.Test.YtcnemhhbihhcfaaCfgX
import Derived.Test.YtcnemhhbihhcfaaOpenT
import Derived.Deep.Slices
namespace Go.Proofs.Ytcnemhhbihhcfaa
open Go.ChangeShapes Go.WideShapes Go.ChangeAt Go.RowKit Go.Deep
set_option linter.unusedVariables false

variable {H : Type} {enc : TypeId × Value → H} {w : World}

theorem Ten.wf.ok {t : Ten} (h : t.wf) : t.Ok := ⟨h.vni, h.vtep, h.lo, h.hi, h.rate, h.burst, h.pool, h.statics, h.twices⟩
/-- What an argument's tenant gives. -/
structure TV.Open (w : World) (x : TV) : Prop where
  rows : x.Rows (fun _ => True) w
  wf : x.t.wf
theorem open_tv {fuel : Nat} {cs : List Value} {x : DataW H × List MemPlace} (h : DataW.trod enc Try.prog w 0 (fun _ => true) true fuel 30 cs = some x) : ∃ x : TV, cs = x.cells ∧ x.Open w := by
  obtain ⟨t, ⟨P, p, Q, q, R, r, e, h1, h2, h3⟩, hw⟩ := open_ten h
  refine ⟨⟨t, .slice P t.pool.length p, .slice Q t.statics.length q, .slice R t.twices.length r⟩, ?_, ⟨⟨P, p, Q, q, R, r, rfl, rfl, rfl, h1, h2, h3⟩, hw⟩⟩
  have := congrArg Array.toList (Value.agg.inj e)
  simpa [TV.cells] using this
theorem TV.Open.val {w : World} {x : TV} (h : x.Open w) : TenV (fun _ => True) w x.t (.agg x.cells.toArray) := by
  obtain ⟨P, p, Q, q, R, r, e1, e2, e3, r1, r2, r3⟩ := h.rows
  exact ⟨P, p, Q, q, R, r, by simp [TV.cells, e1, e2, e3], r1, r2, r3⟩
/-- What is read lies in blocks that are there. -/
theorem TV.Open.here {w : World} {x : TV} (h : x.Open w) : x.Rows (· < w.heap.size) w := by
  obtain ⟨P, p, Q, q, R, r, e1, e2, e3, r1, r2, r3⟩ := h.rows
  exact ⟨P, p, Q, q, R, r, e1, e2, e3, r1.mono (fun b hb _ => hb), r2.mono (fun b hb _ => hb), r3.mono (fun b hb _ => hb)⟩
theorem open_tens {fuel : Nat} {c : Value} {x : DataW H × List MemPlace} (h : DataW.trod enc Try.prog w 0 (fun _ => true) true fuel 46 [c] = some x) :
    ∃ (A : Option Addr) (k : Nat) (l : List TV), c = .slice A l.length k ∧ l.length ≤ 9223372036854775807 ∧ RowAt (fun _ => True) w A (tvCells l) ∧ ∀ x ∈ l, x.Open w := by
  rcases open_slice Try.underlying46 h with ⟨hcs, hx⟩ | ⟨a, len, cap, m, n, D, Pl, hcs, _, hl, hm, hmm, _, hx⟩
  · cases hcs
    exact ⟨none, 0, [], rfl, by simp, .nil _ _ _, by simp⟩
  · cases hcs
    simp only [if_true] at hmm
    have hv : ∀ i, i < len → ∃ x : TV, x.Open w ∧ w.cells? 0 (a.add (i * 33)) 33 = some x.cells := by
      intro i hi
      obtain ⟨cs', h1, h2⟩ := hx i (by omega)
      rw [coTen] at h1
      obtain ⟨x, rfl, hxo⟩ := open_tv h2
      exact ⟨x, hxo, h1⟩
    obtain ⟨g, hg⟩ : ∃ g : Nat → TV, ∀ i, i < len → (g i).Open w ∧ w.cells? 0 (a.add (i * 33)) 33 = some (g i).cells :=
      ⟨fun i => if h : i < len then (hv i h).choose else ⟨default, .nilFunc, .nilFunc, .nilFunc⟩, fun i hi => by simp only [hi, dif_pos]; exact (hv i hi).choose_spec⟩
    refine ⟨some a, cap, (List.range len).map g, by simp, by simp; unfold maxLen at hm; omega, ?_, fun x hx => by
      obtain ⟨i, hi, rfl⟩ := List.mem_map.1 hx
      exact (hg i (by simpa using hi)).1⟩
    by_cases h0 : len = 0
    · subst h0
      exact .nil _ _ _
    · have hcell : ∀ i, i < len → ∀ j, j < 33 → w.cell? ((a.add (i * 33)).add j) = (g i).cells[j]? := by
        intro i hi j hj
        obtain ⟨h1, h2, h3⟩ := World.cells?_some (hg i hi).2
        exact h3 j hj
      obtain ⟨b, o, spot⟩ := a
      have hs : spot = none := by
        have h1 := hcell 0 (by omega) 0 (by decide)
        have h2 : ∃ v, (g 0).cells[0]? = some v := ⟨_, List.getElem?_eq_getElem (by rw [TV.len]; decide)⟩
        obtain ⟨v, hv⟩ := h2
        rw [hv] at h1
        simpa [Addr.add] using World.cell?_spot h1
      subst hs
      refine .inr ⟨b, o, rfl, trivial, fun j v hj => ?_⟩
      have hjl := (List.getElem?_eq_some_iff.1 hj).1
      rw [tvCells, flat_length TV.cells 33 TV.len, List.length_map, List.length_range] at hjl
      have hi : j / 33 < len := by omega
      have hr : ((List.range len).map g)[j / 33]? = some (g (j / 33)) := by simp [hi]
      have hf := flat_at TV.cells 33 TV.len _ (j / 33) (j % 33) _ hr (by omega)
      rw [show j / 33 * 33 + j % 33 = j by omega] at hf
      have hj' : (g (j / 33)).cells[j % 33]? = some v := by rw [← hf]; exact hj
      have h1 := hcell (j / 33) hi (j % 33) (by omega)
      rw [hj', Addr.add_lit, Addr.add_lit, show o + j / 33 * 33 + j % 33 = o + j by omega] at h1
      exact h1
theorem coLT : Try.prog.cellsOf 46 = 1 := by kernel_rfl
theorem coCon : Try.prog.cellsOf 48 = 29 := by kernel_rfl
theorem coChg : Try.prog.cellsOf 38 = 35 := by kernel_rfl
theorem coB : Try.prog.cellsOf 4 = 1 := by kernel_rfl
theorem list29 {α : Type} : ∀ (l : List α), l.length = 29 → ∃ c0 c1 c2 c3 c4 c5 c6 c7 c8 c9 c10 c11 c12 c13 c14 c15 c16 c17 c18 c19 c20 c21 c22 c23 c24 c25 c26 c27 c28, l = [c0, c1, c2, c3, c4, c5, c6, c7, c8, c9, c10, c11, c12, c13, c14, c15, c16, c17, c18, c19, c20, c21, c22, c23, c24, c25, c26, c27, c28]
  | c0 :: c1 :: c2 :: c3 :: c4 :: c5 :: c6 :: c7 :: c8 :: c9 :: c10 :: c11 :: c12 :: c13 :: c14 :: c15 :: c16 :: c17 :: c18 :: c19 :: c20 :: c21 :: c22 :: c23 :: c24 :: c25 :: c26 :: c27 :: c28 :: [], _ => ⟨c0, c1, c2, c3, c4, c5, c6, c7, c8, c9, c10, c11, c12, c13, c14, c15, c16, c17, c18, c19, c20, c21, c22, c23, c24, c25, c26, c27, c28, rfl⟩
theorem list35 {α : Type} : ∀ (l : List α), l.length = 35 → ∃ a b r, l = a :: b :: r ∧ r.length = 33
  | a :: b :: r, h => ⟨a, b, r, rfl, by simpa using h⟩

set_option maxRecDepth 100000 in
set_option maxHeartbeats 2000000 in
theorem open_con {fuel : Nat} {cs : List Value} {x : DataW H × List MemPlace} (h : DataW.trod enc Try.prog w 0 (fun _ => true) true fuel 48 cs = some x) :
    ∃ (c : Con) (A : Option Addr) (k : Nat) (l : List TV), cs.toArray = c.cells (.slice A l.length k) ∧ c.ip < 4294967296 ∧ c.drain < 4294967296 ∧ l.length ≤ 9223372036854775807 ∧ RowAt (fun _ => True) w A (tvCells l) ∧ ∀ x ∈ l, x.Open w := by
  obtain ⟨xs, n, _, _, hl, hlen, hf⟩ := DataW.trod_struct Try.underlying48 h
  rw [coCon] at hl
  obtain ⟨c0, c1, c2, c3, c4, c5, c6, c7, c8, c9, c10, c11, c12, c13, c14, c15, c16, c17, c18, c19, c20, c21, c22, c23, c24, c25, c26, c27, c28, rfl⟩ := list29 cs hl
  have hg : ∀ i, i < 7 → ∃ y, xs[i]? = some y := fun i hi => ⟨_, List.getElem?_eq_getElem (by rw [hlen]; exact hi)⟩
  obtain ⟨y0, hy0⟩ := hg 0 (by decide)
  have t0 : DataW.trod enc Try.prog w 0 (fun _ => true) true n 22 [c0] = some y0 := by
    have : DataW.trod enc Try.prog w 0 (fun _ => true) true n 22 ((List.drop 0 [c0, c1, c2, c3, c4, c5, c6, c7, c8, c9, c10, c11, c12, c13, c14, c15, c16, c17, c18, c19, c20, c21, c22, c23, c24, c25, c26, c27, c28]).take (Try.prog.cellsOf 22)) = xs[0]? := hf 0 _ rfl
    rw [hy0] at this
    rw [coU32] at this
    exact this
  obtain ⟨y1, hy1⟩ := hg 1 (by decide)
  have t1 : DataW.trod enc Try.prog w 0 (fun _ => true) true n 25 [c1, c2, c3, c4, c5, c6] = some y1 := by
    have : DataW.trod enc Try.prog w 0 (fun _ => true) true n 25 ((List.drop 1 [c0, c1, c2, c3, c4, c5, c6, c7, c8, c9, c10, c11, c12, c13, c14, c15, c16, c17, c18, c19, c20, c21, c22, c23, c24, c25, c26, c27, c28]).take (Try.prog.cellsOf 25)) = xs[1]? := hf 1 _ rfl
    rw [hy1] at this
    rw [coM6] at this
    exact this
  obtain ⟨y2, hy2⟩ := hg 2 (by decide)
  have t2 : DataW.trod enc Try.prog w 0 (fun _ => true) true n 25 [c7, c8, c9, c10, c11, c12] = some y2 := by
    have : DataW.trod enc Try.prog w 0 (fun _ => true) true n 25 ((List.drop 7 [c0, c1, c2, c3, c4, c5, c6, c7, c8, c9, c10, c11, c12, c13, c14, c15, c16, c17, c18, c19, c20, c21, c22, c23, c24, c25, c26, c27, c28]).take (Try.prog.cellsOf 25)) = xs[2]? := hf 2 _ rfl
    rw [hy2] at this
    rw [coM6] at this
    exact this
  obtain ⟨y3, hy3⟩ := hg 3 (by decide)
  have t3 : DataW.trod enc Try.prog w 0 (fun _ => true) true n 25 [c13, c14, c15, c16, c17, c18] = some y3 := by
    have : DataW.trod enc Try.prog w 0 (fun _ => true) true n 25 ((List.drop 13 [c0, c1, c2, c3, c4, c5, c6, c7, c8, c9, c10, c11, c12, c13, c14, c15, c16, c17, c18, c19, c20, c21, c22, c23, c24, c25, c26, c27, c28]).take (Try.prog.cellsOf 25)) = xs[3]? := hf 3 _ rfl
    rw [hy3] at this
    rw [coM6] at this
    exact this
  obtain ⟨y4, hy4⟩ := hg 4 (by decide)
  have t4 : DataW.trod enc Try.prog w 0 (fun _ => true) true n 23 [c19, c20, c21, c22, c23, c24, c25, c26] = some y4 := by
    have : DataW.trod enc Try.prog w 0 (fun _ => true) true n 23 ((List.drop 19 [c0, c1, c2, c3, c4, c5, c6, c7, c8, c9, c10, c11, c12, c13, c14, c15, c16, c17, c18, c19, c20, c21, c22, c23, c24, c25, c26, c27, c28]).take (Try.prog.cellsOf 23)) = xs[4]? := hf 4 _ rfl
    rw [hy4] at this
    rw [coK8] at this
    exact this
  obtain ⟨y5, hy5⟩ := hg 5 (by decide)
  have t5 : DataW.trod enc Try.prog w 0 (fun _ => true) true n 22 [c27] = some y5 := by
    have : DataW.trod enc Try.prog w 0 (fun _ => true) true n 22 ((List.drop 27 [c0, c1, c2, c3, c4, c5, c6, c7, c8, c9, c10, c11, c12, c13, c14, c15, c16, c17, c18, c19, c20, c21, c22, c23, c24, c25, c26, c27, c28]).take (Try.prog.cellsOf 22)) = xs[5]? := hf 5 _ rfl
    rw [hy5] at this
    rw [coU32] at this
    exact this
  obtain ⟨y6, hy6⟩ := hg 6 (by decide)
  have t6 : DataW.trod enc Try.prog w 0 (fun _ => true) true n 46 [c28] = some y6 := by
    have : DataW.trod enc Try.prog w 0 (fun _ => true) true n 46 ((List.drop 28 [c0, c1, c2, c3, c4, c5, c6, c7, c8, c9, c10, c11, c12, c13, c14, c15, c16, c17, c18, c19, c20, c21, c22, c23, c24, c25, c26, c27, c28]).take (Try.prog.cellsOf 46)) = xs[6]? := hf 6 _ rfl
    rw [hy6] at this
    rw [coLT] at this
    exact this
  clear hf hg h hl hlen
  obtain ⟨ip, rfl, bip⟩ := open_u32 t0
  obtain ⟨mac0, rfl⟩ := open_arr Try.underlying25 t1 0 _ (by decide) rfl
  obtain ⟨mac1, rfl⟩ := open_arr Try.underlying25 t1 1 _ (by decide) rfl
  obtain ⟨mac2, rfl⟩ := open_arr Try.underlying25 t1 2 _ (by decide) rfl
  obtain ⟨mac3, rfl⟩ := open_arr Try.underlying25 t1 3 _ (by decide) rfl
  obtain ⟨mac4, rfl⟩ := open_arr Try.underlying25 t1 4 _ (by decide) rfl
  obtain ⟨mac5, rfl⟩ := open_arr Try.underlying25 t1 5 _ (by decide) rfl
  obtain ⟨omac0, rfl⟩ := open_arr Try.underlying25 t2 0 _ (by decide) rfl
  obtain ⟨omac1, rfl⟩ := open_arr Try.underlying25 t2 1 _ (by decide) rfl
  obtain ⟨omac2, rfl⟩ := open_arr Try.underlying25 t2 2 _ (by decide) rfl
  obtain ⟨omac3, rfl⟩ := open_arr Try.underlying25 t2 3 _ (by decide) rfl
  obtain ⟨omac4, rfl⟩ := open_arr Try.underlying25 t2 4 _ (by decide) rfl
  obtain ⟨omac5, rfl⟩ := open_arr Try.underlying25 t2 5 _ (by decide) rfl
  obtain ⟨nmac0, rfl⟩ := open_arr Try.underlying25 t3 0 _ (by decide) rfl
  obtain ⟨nmac1, rfl⟩ := open_arr Try.underlying25 t3 1 _ (by decide) rfl
  obtain ⟨nmac2, rfl⟩ := open_arr Try.underlying25 t3 2 _ (by decide) rfl
  obtain ⟨nmac3, rfl⟩ := open_arr Try.underlying25 t3 3 _ (by decide) rfl
  obtain ⟨nmac4, rfl⟩ := open_arr Try.underlying25 t3 4 _ (by decide) rfl
  obtain ⟨nmac5, rfl⟩ := open_arr Try.underlying25 t3 5 _ (by decide) rfl
  obtain ⟨key0, rfl⟩ := open_arr Try.underlying23 t4 0 _ (by decide) rfl
  obtain ⟨key1, rfl⟩ := open_arr Try.underlying23 t4 1 _ (by decide) rfl
  obtain ⟨key2, rfl⟩ := open_arr Try.underlying23 t4 2 _ (by decide) rfl
  obtain ⟨key3, rfl⟩ := open_arr Try.underlying23 t4 3 _ (by decide) rfl
  obtain ⟨key4, rfl⟩ := open_arr Try.underlying23 t4 4 _ (by decide) rfl
  obtain ⟨key5, rfl⟩ := open_arr Try.underlying23 t4 5 _ (by decide) rfl
  obtain ⟨key6, rfl⟩ := open_arr Try.underlying23 t4 6 _ (by decide) rfl
  obtain ⟨key7, rfl⟩ := open_arr Try.underlying23 t4 7 _ (by decide) rfl
  obtain ⟨drain, rfl, bdrain⟩ := open_u32 t5
  obtain ⟨A, k, l, rfl, hlen, hrow, hl⟩ := open_tens t6
  exact ⟨⟨ip, ⟨mac0, mac1, mac2, mac3, mac4, mac5⟩, ⟨omac0, omac1, omac2, omac3, omac4, omac5⟩, ⟨nmac0, nmac1, nmac2, nmac3, nmac4, nmac5⟩, ⟨key0, key1, key2, key3, key4, key5, key6, key7⟩, drain⟩, A, k, l, rfl, bip, bdrain, hlen, hrow, hl⟩

theorem open_bool {fuel : Nat} {c : Value} {x : DataW H × List MemPlace} (h : DataW.trod enc Try.prog w 0 (fun _ => true) true fuel 4 [c] = some x) : ∃ b, c = .bool b := by
  obtain ⟨b, e, _⟩ := DataW.trod_bool Try.underlying4 h
  cases e
  exact ⟨b, rfl⟩
set_option maxRecDepth 100000 in
theorem open_chg {fuel : Nat} {cs : List Value} {x : DataW H × List MemPlace} (h : DataW.trod enc Try.prog w 0 (fun _ => true) true fuel 38 cs = some x) :
    ∃ (put : Bool) (name : List UInt8) (x : TV), cs.toArray = cChg put name x ∧ x.Open w := by
  obtain ⟨xs, n, _, _, hl, hlen, hf⟩ := DataW.trod_struct Try.underlying38 h
  rw [coChg] at hl
  obtain ⟨a, b, r, rfl, hr⟩ := list35 cs hl
  have hg : ∀ i, i < 3 → ∃ y, xs[i]? = some y := fun i hi => ⟨_, List.getElem?_eq_getElem (by rw [hlen]; exact hi)⟩
  obtain ⟨y0, hy0⟩ := hg 0 (by decide)
  obtain ⟨y1, hy1⟩ := hg 1 (by decide)
  obtain ⟨y2, hy2⟩ := hg 2 (by decide)
  have t0 : DataW.trod enc Try.prog w 0 (fun _ => true) true n 4 ((List.drop 0 (a :: b :: r)).take (Try.prog.cellsOf 4)) = xs[0]? := hf 0 _ rfl
  have t1 : DataW.trod enc Try.prog w 0 (fun _ => true) true n 9 ((List.drop 1 (a :: b :: r)).take (Try.prog.cellsOf 9)) = xs[1]? := hf 1 _ rfl
  have t2 : DataW.trod enc Try.prog w 0 (fun _ => true) true n 30 ((List.drop 2 (a :: b :: r)).take (Try.prog.cellsOf 30)) = xs[2]? := hf 2 _ rfl
  rw [hy0, coB] at t0
  rw [hy1, coStr] at t1
  rw [hy2, coTen] at t2
  have e2 : (List.drop 2 (a :: b :: r)).take 33 = r := by simp [List.take_of_length_le (Nat.le_of_eq hr)]
  rw [e2] at t2
  obtain ⟨put, hp⟩ := open_bool (c := a) t0
  obtain ⟨s, hs⟩ := trod_str Try.underlying9 t1
  obtain ⟨x, rfl, hx⟩ := open_tv t2
  obtain rfl : b = .string s := by simpa using hs
  subst hp
  refine ⟨put, s.data.toList, x, ?_, hx⟩
  simp [cChg, str_list]
/-- Bytes. -/
theorem open_bytes {fuel : Nat} {c : Value} {x : DataW H × List MemPlace} (h : DataW.trod enc Try.prog w 0 (fun _ => true) true fuel 34 [c] = some x) :
    ∃ (A : Option Addr) (k : Nat) (l : List UInt8), c = .slice A l.length k ∧ l.length ≤ k ∧ l.length ≤ 9223372036854775807 ∧ RowAt (fun _ => True) w A (bcells l) := by
  obtain ⟨A, n, k, rfl, hnk⟩ : ∃ A n k, c = .slice A n k ∧ n ≤ k := by
    rcases open_ints Try.underlying34 Try.underlying5 co5 h with ⟨hcs, _⟩ | ⟨a, len', cap', zs, hcs, _, hl, _⟩
    · cases hcs; exact ⟨_, _, _, rfl, Nat.le_refl _⟩
    · cases hcs; exact ⟨_, _, _, rfl, hl⟩
  obtain ⟨zs, hz, hlen, hrow, hw⟩ := open_row_ints Try.underlying34 Try.underlying5 co5 h
  refine ⟨A, k, zs.map (fun z => UInt8.ofNat z.toNat), by rw [List.length_map, hz], by rw [List.length_map, hz]; exact hnk, by rw [List.length_map, hz]; exact hlen, ?_⟩
  have e : bcells (zs.map (fun z => UInt8.ofNat z.toNat)) = zs.map fun z => .int .u8 z := by
    simp only [bcells, List.map_map]
    refine List.map_congr_left fun z hz => ?_
    obtain ⟨b, rfl⟩ := byte_of_u8 (hw z hz)
    simp
  rw [e]
  exact hrow

end Go.Proofs.Ytcnemhhbihhcfaa
