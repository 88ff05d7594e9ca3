/-
  Package sess, seventh part: slices.DeleteFunc at points that the call owns; Peer.
-/
import Derived.Test.YtimbhkbdmcbodaaSessF
import Derived.Deep.AppendLies
namespace Go.Proofs.Ytimbhkbdmcbodaa
open Go.RowKit
set_option linter.unusedVariables false

theorem ptCells_set : ∀ (l : List Point) (i : Nat) (x : Point), i < l.length → ((ptCells l).set (i * 2) (.int .u32 x.ip)).set (i * 2 + 1) (.int .u16 x.port) = ptCells (l.set i x)
  | [], i, x, h => by simp at h
  | y :: r, 0, x, _ => by simp [ptCells, Point.cells]
  | y :: r, i + 1, x, h => by
    have ih := ptCells_set r i x (by simpa using h)
    have e : (i + 1) * 2 = i * 2 + 1 + 1 := by omega
    simp only [ptCells, List.flatMap_cons, Point.cells, List.cons_append, List.nil_append, List.set_cons_succ, e] at ih ⊢
    rw [ih]
theorem heap_setCell_row {w : World} {g i : Nat} {cur : Array Value} {t : TypeId} (hg : w.heap[g]? = some (.cells cur t (0, 0))) (v : Value) : (w.setCell ⟨g, i, none⟩ v).heap[g]? = some (.cells (cur.setIfInBounds i v) t (0, 0)) := by
  have hlt := lt_of_block hg
  have h' : w.heap[g] = .cells cur t (0, 0) := by simpa [Array.getElem?_eq_getElem hlt] using hg
  show (w.heap.modify g _)[g]? = _
  rw [Array.getElem?_eq_getElem (by simpa using hlt), Array.getElem_modify_self, h']
  rfl
theorem take_set2 (l : List Value) (m a b : Nat) (u v : Value) (ha : a < m) (hb : b < m) : ((l.set a u).set b v).take m = ((l.take m).set a u).set b v := by
  rw [List.take_set, List.take_set]
/-- A store of a point into a row that the call owns. -/
theorem own_set {w : World} {base : Nat} {g n cap : Nat} {M : List Point} (h : w.ownsRow base 26 2 (.slice (some ⟨g, 0, none⟩) n cap) n (ptCells M)) {i : Nat} (hi : i < n) (x : Point) :
    ((w.setCell ⟨g, i * 2, none⟩ (.int .u32 x.ip)).setCell ⟨g, i * 2 + 1, none⟩ (.int .u16 x.port)).ownsRow base 26 2 (.slice (some ⟨g, 0, none⟩) n cap) n (ptCells (M.set i x)) := by
  have hM : M.length = n := by have := h.1; rw [ptCells_length] at this; omega
  refine ⟨by rw [ptCells_length, List.length_set, hM], ?_⟩
  rcases h.2 with ⟨h1, _⟩ | ⟨g', cap', cur, he, hb, hg, hn, hc, hs, ht⟩
  · cases h1
  · cases he
    refine .inr ⟨g, cap, _, rfl, hb, heap_setCell_row (heap_setCell_row hg _) _, hn, hc, by simpa using hs, ?_⟩
    simp only [Array.toList_setIfInBounds]
    rw [take_set2 _ _ _ _ _ _ (by omega) (by omega), ht, ptCells_set _ _ _ (by omega)]

theorem zeroPoint (w : World) : (zeroValue 26).run Try.prog w = .ok (.agg #[.int .u32 0, .int .u16 0]) w := by kernel_rfl
/-- clear(s[i:]) of a row that the call owns: what stands ahead of i is the call's still. -/
theorem own_clear {w : World} {base : Nat} {g n cap : Nat} {M : List Point} (h : w.ownsRow base 26 2 (.slice (some ⟨g, 0, none⟩) n cap) n (ptCells M)) {i : Nat} (hi : i < n) (c : Nat) :
    ∃ w', (∀ ty, (Builtin.clear_ #[22] ty #[.slice (some ⟨g, i * 2, none⟩) (n - i) c]).run Try.prog w = .ok (.tuple #[]) w') ∧ w'.ownsRow base 26 2 (.slice (some ⟨g, 0, none⟩) i cap) i (ptCells (M.take i)) ∧ Mod (fun b => b = g) w w' := by
  have hM : M.length = n := by have := h.1; rw [ptCells_length] at this; omega
  rcases h.2 with ⟨h1, _⟩ | ⟨g', cap', cur, he, hb, hg, hn, hc, hs, ht⟩
  · cases h1
  · cases he
    obtain ⟨m, hm⟩ : ∃ m, n - i = m + 1 := ⟨n - i - 1, by omega⟩
    have hz1 : ∀ v ∈ (Builtin.zeroCells (Value.agg #[.int .u32 0, .int .u16 0]).cells (m + 1)).toList, v.oneCell' = true := by
      intro v hv
      simp only [Builtin.zeroCells, Value.cells, Array.toList_map, List.mem_map] at hv
      obtain ⟨j, _, rfl⟩ := hv
      have : j % 2 = 0 ∨ j % 2 = 1 := by omega
      rcases this with h | h <;> simp [h, Value.oneCell']
    have hzl : (Builtin.zeroCells (Value.agg #[.int .u32 0, .int .u16 0]).cells (m + 1)).toList.length = (m + 1) * 2 := by
      simp [Builtin.zeroCells, Value.cells]
    have hst := run_storeCells_at Try.prog g (i * 2) 26 (Builtin.zeroCells (Value.agg #[.int .u32 0, .int .u16 0]).cells (m + 1)).toList 0 cur w hg (by rw [hzl]; omega) hz1
    obtain ⟨R, hR⟩ : ∃ R, R = (List.take (i * 2 + 0) cur.toList ++ (Builtin.zeroCells (Value.agg #[.int .u32 0, .int .u16 0]).cells (m + 1)).toList ++ List.drop (i * 2 + 0 + (Builtin.zeroCells (Value.agg #[.int .u32 0, .int .u16 0]).cells (m + 1)).toList.length) cur.toList).toArray := ⟨_, rfl⟩
    rw [← hR] at hst
    refine ⟨w.setRow g R, ?_, ⟨by rw [ptCells_length, List.length_take]; omega, .inr ⟨g, cap, R, rfl, hb, setRow_heap w g cur R _ _ hg, by omega, hc, ?_, ?_⟩⟩, ⟨rfl, rfl, rfl, by simp [World.setRow], fun b _ hb => setRow_other w g b _ hb⟩⟩
    · intro ty
      rw [hm]
      simp [Builtin.clear_, run_underlying Try.underlying22, hst, Result.andThen]
    · rw [hR]
      simp only [List.size_toArray, List.length_append, List.length_take, List.length_drop, Array.length_toList, hzl]
      omega
    · rw [hR]
      simp only [Nat.add_zero]
      rw [List.append_assoc, List.take_append_of_le_length (by simp; omega), List.take_take, Nat.min_self]
      have h1 : (cur.toList.take (n * 2)).take (i * 2) = cur.toList.take (i * 2) := by rw [List.take_take, Nat.min_eq_left (by omega)]
      rw [← h1, ht]
      have h2 : ptCells M = ptCells (M.take i) ++ ptCells (M.drop i) := by rw [ptCells, ptCells, ptCells, ← List.flatMap_append, List.take_append_drop]
      rw [h2, List.take_append_of_le_length (by rw [ptCells_length, List.length_take]; omega), List.take_of_length_le (by rw [ptCells_length, List.length_take]; omega)]

def keep (q : Point → Bool) (l : List Point) : List Point := l.filter (fun x => !q x)
theorem keep_none {q : Point → Bool} {l : List Point} (h : idxOf q l = -1) : keep q l = l := by
  unfold idxOf at h
  split at h
  · omega
  · rename_i hn
    rw [keep, List.filter_eq_self]
    intro x hx
    have := List.findIdx?_eq_none_iff.1 hn x hx
    simp [this]
theorem keep_first {q : Point → Bool} {l : List Point} {i : Nat} (h : idxOf q l = i) : i < l.length ∧ l.take i = keep q (l.take (i + 1)) := by
  unfold idxOf at h
  split at h
  · rename_i j hj
    obtain rfl : j = i := by omega
    obtain ⟨h1, h2, h3⟩ := List.findIdx?_eq_some_iff_getElem.1 hj
    refine ⟨h1, ?_⟩
    rw [List.take_succ_eq_append_getElem h1, keep, List.filter_append]
    have e1 : (l.take j).filter (fun x => !q x) = l.take j := by
      rw [List.filter_eq_self]
      intro x hx
      obtain ⟨k, hk, rfl⟩ := List.getElem_of_mem hx
      have hk' : k < j := by simp at hk; omega
      rw [List.getElem_take]
      simpa using h3 k hk'
    simp [e1, h2]
  · omega
theorem keep_step {q : Point → Bool} {l : List Point} {k : Nat} {x : Point} (h : l[k]? = some x) : keep q (l.take (k + 1)) = keep q (l.take k) ++ if q x then [] else [x] := by
  obtain ⟨h1, h2⟩ := List.getElem?_eq_some_iff.1 h
  rw [List.take_succ_eq_append_getElem h1, keep, List.filter_append, ← keep, h2]
  cases hq : q x <;> simp [hq]

/-- slices.DeleteFunc, of a row that the call owns. -/
theorem deleteFunc_some {base g n cap : Nat} (fn : Nat) (cp : Value) (q : Point → Bool) (l : List Point) (w : World) (hown : w.ownsRow base 26 2 (.slice (some ⟨g, 0, none⟩) n cap) n (ptCells l)) (hl : n ≤ 65536) (hq : Tells (fun b => b = g) fn cp q w) :
    Calls Try.prog 37 #[.slice (some ⟨g, 0, none⟩) n cap, .func (.func fn) #[] #[cp]] w fun e w' => e = .returned (.slice (some ⟨g, 0, none⟩) (keep q l).length cap) ∧ w'.ownsRow base 26 2 (.slice (some ⟨g, 0, none⟩) (keep q l).length cap) (keep q l).length (ptCells (keep q l)) ∧ Mod (fun b => b = g) w w' := by
  have hn : n = l.length := by have := hown.1; rw [ptCells_length] at this; omega
  obtain ⟨A, c, he, _, hr⟩ := RowAt.of_owns hown
  cases he
  have hfr : w.heap[g]? = some (.cells ((w.heap[g]?.map (fun o => match o with | .cells c _ _ => c | _ => #[])).getD #[]) 26 (0, 0)) := by
    rcases hown.2 with ⟨h1, _⟩ | ⟨g', cap', cur, he, hb, hg, _⟩
    · cases h1
    · cases he; rw [hg]; rfl
  have hglt := lt_of_block hfr
  have HI := Lib.hid (indexFunc_ok' fn cp q (some ⟨g, 0, none⟩) cap l w hr n hn (by omega) ⟨hq.enters, fun W x h => hq.says W x (h.mono (fun _ h => h.elim))⟩)
  have hen := hq.enters
  have HQ := Lib.hid hq.says
  have HO := Lib.hid hown
  have HN := Lib.hid hn
  have HL := Lib.hid hl
  clear hq hown hr hfr hn hl
  rcases (by omega : idxOf q l < 0 ∨ 0 ≤ idxOf q l) with hneg | hpos
  · have hi : idxOf q l = -1 := by have := (idxOf_lt q l).1; omega
    have HK := Lib.hid (keep_none hi)
    rw [hi] at HI
    clear hneg hi
    go_enter Try.func37, Try.ntmps37
    go_wp2_with fail
    refine HI.out.mono ?_
    rintro e w1 ⟨rfl, hm⟩
    go_wp2
    go_ret
    rw [HK.out, ← HN.out]
    exact ⟨rfl, HO.out.kept (row := none) ⟨hm.os, hm.tape, hm.output, hm.size, fun k hk _ => hm.block k hk id⟩ (.inr (by simp [Value.ownBlock])), hm.mono (fun _ h => h.elim)⟩
  · obtain ⟨i0, hi⟩ : ∃ i0 : Nat, idxOf q l = i0 := ⟨(idxOf q l).toNat, by omega⟩
    rw [hi] at HI
    have hkf := keep_first hi
    have hi0 : i0 < n := by have := HN.out; omega
    have HKF := Lib.hid hkf.2
    have hne : ((i0 : Int) == -1) = false := by rw [beq_eq_false_iff_ne]; omega
    have hi1 : (i0 : Int) + 1 ≤ 65537 := by have := HL.out; omega
    clear hpos hi hkf
    go_enter Try.func37, Try.ntmps37
    go_wp2_with fail
    refine HI.out.mono ?_
    rintro e w1 ⟨rfl, hm⟩
    have HO1 := Lib.hid (HO.out.kept (row := none) ⟨hm.os, hm.tape, hm.output, hm.size, fun k hk _ => hm.block k hk id⟩ (.inr (by simp [Value.ownBlock])))
    have HM1 := Lib.hid (Mod.mono (G := fun b => b = g) hm (fun _ h => h.elim))
    clear hm
    go_wp2
    go_loopw [5, 6] (fun i j wr => ∃ (k m : Nat) (M : List Point), i = .int .i64 m ∧ j = .int .i64 k ∧ k ≤ n ∧ m < k ∧ M.length = n ∧ M.take m = keep q (l.take k) ∧ (∀ t, k ≤ t → M[t]? = l[t]?) ∧ wr.ownsRow base 26 2 (.slice (some ⟨g, 0, none⟩) n cap) n (ptCells M) ∧ Mod (fun b => b = g) w wr) (fun _ j _ => n - (intOf j).toNat)
    case atStart => exact ⟨i0 + 1, i0, l, rfl, by go_num, by omega, by omega, HN.out.symm, HKF.out, fun _ _ => rfl, HO1.out, HM1.out⟩
    case round =>
      obtain ⟨k, m, M, rfl, rfl, hk, hmk, hM, hpre, htl, hown, hmw⟩ := hrel
      have HOW := Lib.hid hown
      have HPR := Lib.hid hpre
      have HTL := Lib.hid htl
      have HMW := Lib.hid hmw
      have HML := Lib.hid hM
      by_cases hlt : k < n
      · obtain ⟨x, hx⟩ : ∃ x, l[k]? = some x := ⟨_, List.getElem?_eq_getElem (by have := HN.out; omega)⟩
        obtain ⟨y, hy⟩ : ∃ y, M[m]? = some y := ⟨_, List.getElem?_eq_getElem (by omega)⟩
        obtain ⟨A', c', he, _, hr⟩ := RowAt.of_owns hown
        cases he
        obtain ⟨b, o, e1, _, hblt, hx0, hx1⟩ := pts_at hr ((htl k (Nat.le_refl k)).trans hx)
        cases e1
        obtain ⟨b, o, e2, _, _, hy0, hy1⟩ := pts_at hr hy
        cases e2
        rw [Nat.zero_add] at hx0 hx1 hy0 hy1
        have hfz : ∀ j, wr.frozen? ⟨g, j, none⟩ = false := by
          rcases hown.2 with ⟨h1, _⟩ | ⟨g', cap', cur, he, hb, hg, _⟩
          · cases h1
          · cases he; exact blk_free hg
        have HX := Lib.hid hx
        clear hown hpre htl hmw hM hx hy hr
        have p1 : (0:Int) ≤ k := by omega
        have p2 : (k:Int) < n := by omega
        have p3 : (0:Int) ≤ m := by omega
        have p4 : (m:Int) < n := by omega
        have p5 : (n:Int) ≤ 65536 := by have := HL.out; omega
        go_wp2_with fail
        refine (HQ.out _ x (HMW.out.alloc _)).mono ?_
        rintro e w2 ⟨rfl, hm2⟩
        have B1 := hm2.obj (at10 wr _) id
        have k0 : w2.cell? ⟨wr.heap.size, 0, none⟩ = some (.int .u32 x.ip) := (blk_cell B1 0).trans rfl
        have k1 : w2.cell? ⟨wr.heap.size, 1, none⟩ = some (.int .u16 x.port) := (blk_cell B1 1).trans rfl
        have hm3 := ((Mod.refl No wr).alloc _).trans hm2
        have hy0' := hm3.cell hy0 id
        have hy1' := hm3.cell hy1 id
        have hfz' : ∀ j, w2.frozen? ⟨g, j, none⟩ = false := fun j => (World.frozen?_of_block (w := wr) (hm3.block g hblt id)).trans (hfz j)
        have HO2 := Lib.hid (HOW.out.kept (row := none) ⟨hm3.os, hm3.tape, hm3.output, hm3.size, fun k hk _ => hm3.block k hk id⟩ (.inr (by simp [Value.ownBlock])))
        have HM3 := Lib.hid (HMW.out.trans (Mod.mono (G := fun b => b = g) hm3 (fun _ h => h.elim)))
        clear hm2 hm3 B1 hx0 hx1 hy0 hy1 hfz
        have hst := keep_step (q := q) HX.out
        cases hqx : q x
        · have HST := Lib.hid hst
          have HQX := Lib.hid hqx
          clear hst hqx
          go_wp2
          refine ⟨⟨k + 1, m + 1, M.set m x, by go_num, by go_num, by omega, by omega, by rw [List.length_set]; exact HML.out, ?_, ?_, own_set HO2.out (by omega) x, ?_⟩, by simp [intOf]; omega⟩
          · have e := HST.out
            rw [HQX.out, ← HPR.out] at e
            have hml : m < M.length := by have := HML.out; omega
            rw [e, List.take_succ_eq_append_getElem (by rw [List.length_set]; exact hml), List.getElem_set_self, List.take_set_of_le (Nat.le_refl m)]
            rfl
          · intro t ht
            rw [List.getElem?_set_ne (by omega)]
            exact HTL.out t (by omega)
          · exact Mod.setCell (Mod.setCell HM3.out (.inr rfl) _) (.inr rfl) _
        · have HST := Lib.hid hst
          have HQX := Lib.hid hqx
          clear hst hqx
          go_wp2
          refine ⟨⟨k + 1, m, M, by go_num, by go_num, by omega, by omega, HML.out, ?_, fun t ht => HTL.out t (by omega), HO2.out, HM3.out⟩, by simp [intOf]; omega⟩
          have e := HST.out
          rw [HQX.out] at e
          rw [e, HPR.out]
          simp
      · have hk' : k = n := by omega
        subst hk'
        have hfull : l.take k = l := List.take_of_length_le (by have := HN.out; omega)
        have hlen : (keep q l).length = m := by
          have e := hpre
          rw [hfull] at e
          rw [← e, List.length_take]
          omega
        have hpre' : ptCells (M.take m) = ptCells (keep q l) := by rw [hpre, hfull]
        clear hfull
        obtain ⟨w', hcl, hown', hm'⟩ := own_clear hown (i := m) hmk (cap - m)
        have p1 : (m : Int) ≤ cap := by
          rcases hown.2 with ⟨h1, _⟩ | ⟨g', cap', cur, he, hb, hg, hn, _⟩
          · cases h1
          · cases he; omega
        have HP' := Lib.hid hpre'
        have HO' := Lib.hid hown'
        have HM' := Lib.hid (hmw.trans hm')
        have HLN := Lib.hid hlen
        clear hpre htl hown hmw hM hpre' hlen hown' hm'
        have p2 : (m : Int) < k := by omega
        have p3 : (k:Int) ≤ 65536 := by have := HL.out; omega
        have p4 : (0 : Int) ≤ m := by omega
        go_wp2
        go_ret
        rw [HLN.out, ← HP'.out]
        exact ⟨rfl, HO'.out, HM'.out⟩

theorem own_mod {w w' : World} {base : Nat} {e : TypeId} {size : Nat} {v : Value} {n : Nat} {xs : List Value} {F : Nat → Prop} (h : w.ownsRow base e size v n xs) (hm : Mod F w w') (hF : ∀ k, v.ownBlock = some k → ¬ F k) : w'.ownsRow base e size v n xs := by
  refine ⟨h.1, ?_⟩
  rcases h.2 with hn | ⟨g, cap, cur, rfl, hb, hgg, rest⟩
  · exact .inl hn
  · exact .inr ⟨g, cap, cur, rfl, hb, hm.obj hgg (hF g rfl), rest⟩
/-- slices.DeleteFunc, of whatever the call owns. -/
theorem deleteFunc_ok {base : Nat} {v : Value} (fn : Nat) (cp : Value) (q : Point → Bool) (l : List Point) (w : World) (hown : w.ownsRow base 26 2 v l.length (ptCells l)) (hl : l.length ≤ 65536) (hq : Tells (fun b => v.ownBlock = some b) fn cp q w) :
    Calls Try.prog 37 #[v, .func (.func fn) #[] #[cp]] w fun e w' => ∃ v', e = .returned v' ∧ w'.ownsRow base 26 2 v' (keep q l).length (ptCells (keep q l)) ∧ v'.ownBlock = v.ownBlock ∧ Mod (fun b => v.ownBlock = some b) w w' := by
  rcases hown.2 with ⟨rfl, hn⟩ | ⟨g, cap, cur, rfl, _⟩
  · have hl0 : l = [] := List.eq_nil_of_length_eq_zero hn
    subst hl0
    have HI := Lib.hid (indexFunc_ok' (S := No) fn cp q none 0 [] w (.nil _ _ _) 0 rfl (by omega) ⟨hq.enters, fun W x h => hq.says W x (h.mono (fun _ h => h.elim))⟩)
    have e1 : idxOf q [] = -1 := rfl
    rw [e1] at HI
    clear hq hown hl hn e1
    go_enter Try.func37, Try.ntmps37
    go_wp2_with fail
    refine HI.out.mono ?_
    rintro e w1 ⟨rfl, hm⟩
    go_wp2
    go_ret
    exact ⟨_, rfl, World.ownsRow_nil _ _ _ _, rfl, hm.mono (fun _ h => h.elim)⟩
  · have hq' : Tells (fun b => b = g) fn cp q w := ⟨hq.enters, fun W x h => hq.says W x (h.mono (fun b hb => by subst hb; rfl))⟩
    exact (deleteFunc_some fn cp q l w hown hl hq').mono fun e w' ⟨h1, h2, h3⟩ => ⟨_, h1, h2, rfl, h3.mono (fun b hb => by subst hb; rfl)⟩

theorem own_base_le {w : World} {base B : Nat} {e : TypeId} {size : Nat} {v : Value} {n : Nat} {xs : List Value} (h : w.ownsRow B e size v n xs) (hB : base ≤ B) : w.ownsRow base e size v n xs := by
  refine ⟨h.1, ?_⟩
  rcases h.2 with hn | ⟨g, cap, cur, rfl, hb, rest⟩
  · exact .inl hn
  · exact .inr ⟨g, cap, cur, rfl, Nat.le_trans hB hb, rest⟩

theorem row_drop {S : Nat → Prop} {w : World} {b o : Nat} {l : List Point} (h : RowAt S w (some ⟨b, o, none⟩) (ptCells l)) (k : Nat) : RowAt S w (some ⟨b, o + k * 2, none⟩) (ptCells (l.drop k)) := by
  rcases h with h | ⟨b', o', e, hs, hc⟩
  · have hl : l.length = 0 := by have := ptCells_length l; rw [h] at this; simp at this; omega
    have : l.drop k = [] := by rw [List.drop_eq_nil_iff]; omega
    rw [this]
    exact .nil _ _ _
  · cases e
    refine .inr ⟨b, o + k * 2, rfl, hs, fun j v hj => ?_⟩
    rw [Nat.add_assoc]
    refine hc _ v ?_
    have e : ptCells (l.drop k) = (ptCells l).drop (k * 2) := by
      have h2 : ptCells l = ptCells (l.take k) ++ ptCells (l.drop k) := by rw [ptCells, ptCells, ptCells, ← List.flatMap_append, List.take_append_drop]
      rcases Nat.lt_or_ge l.length k with hk | hk
      · have h3 : l.drop k = [] := by rw [List.drop_eq_nil_iff]; omega
        have h4 : (ptCells l).drop (k * 2) = [] := by rw [List.drop_eq_nil_iff, ptCells_length]; omega
        rw [h3, h4]; rfl
      · rw [h2, List.drop_append_of_le_length (by rw [ptCells_length, List.length_take]; omega), List.drop_of_length_le (l := ptCells (l.take k)) (by rw [ptCells_length, List.length_take]; omega)]
        rfl
    rw [e, List.getElem?_drop] at hj
    exact hj
/-- One point more on a row that the call owns: at a step of a region that draws. -/
theorem step_append_pt {w : World} {ops : Array Oper} {o : Oper} {a : Act} {K : Act → World → Prop} {Q : Exit → Act → World → Prop} {E : Prop} (hgd : o.guard = none) (s x : Operand)
    (ho : o.op = .call { callee := .builtin .append, args := #[s, x], argTypes := #[22, 22] }) (v : Value) (l : List Point) (base : Nat) (hs : a.eval s = v) (hown : w.ownsRow base 26 2 v l.length (ptCells l)) (hl : l.length ≤ 65000)
    (b c : Nat) (p : Point) (hx : a.eval x = .slice (some ⟨b, 0, none⟩) 1 c) (hb : w.heap[b]? = some (.cells #[.int .u32 p.ip, .int .u16 p.port] 26 (0, 0))) (hbase : base ≤ w.heap.size)
    (h : ∀ g cap w', w'.ownsRow base 26 2 (.slice (some ⟨g, 0, none⟩) (l.length + 1) cap) (l.length + 1) (ptCells (l ++ [p])) → w.grownBy w' v.ownBlock → K (a.put o.dst (.slice (some ⟨g, 0, none⟩) (l.length + 1) cap)) w') :
    if Region.wanted o (yielded ops a.tmps) = true then Oper.wp Try.prog o a w K Q else E := by
  obtain ⟨i0, hi, hz0, hz1, hz2⟩ := info_parts infoPoint
  have e : ptCells (l ++ [p]) = ptCells l ++ [.int .u32 p.ip, .int .u16 p.port] := by rw [ptCells, List.flatMap_append]; rfl
  refine step_append_lies w hgd s x _ ho base 26 i0 _ 2 8 Try.underlying22 hi hz0 hz1 hz2 rfl (by decide) v l.length (ptCells l) hs hown ⟨b, 0, none⟩ 1 c [.int .u32 p.ip, .int .u16 p.port] hx rfl (World.news_of_block hb) ?_ (by decide) ?_ ?_ hbase _ rfl ?_
  · intro u hu
    simp only [List.mem_cons, List.not_mem_nil, or_false] at hu
    rcases hu with rfl | rfl <;> rfl
  · unfold maxLen; omega
  · omega
  · intro g cap w' h1 h2 _ _
    rw [← e] at h1
    exact h g cap w' h1 h2

/-! ### Peer -/
def peer (l : List Point) (p : Point) : List Point := (keep (fun x => decide (x = p)) l ++ [p]).drop ((keep (fun x => decide (x = p)) l).length + 1 - 8)
theorem keep_le (q : Point → Bool) (l : List Point) : (keep q l).length ≤ l.length := List.length_filter_le _ _

set_option maxRecDepth 100000 in
set_option maxHeartbeats 1600000 in
theorem peer_ok {S : Nat → Prop} (A : Option Addr) (c : Nat) (l : List Point) (p : Point) (w : World) (hx : RowAt S w A (ptCells l)) (hl : l.length ≤ 60000) :
    Calls Try.prog 12 #[.slice A l.length c, p.val] w fun e w' => ∃ v, e = .returned v ∧ w'.ownsRow w.heap.size 26 2 v (peer l p).length (ptCells (peer l p)) ∧ Mod No w w' := by
  obtain ⟨i0, hi, hz0, hz1, hz2⟩ := info_parts infoPoint
  have hcl : ∀ W, Mod No (w.alloc (.cells #[.int .u32 p.ip, .int .u16 p.port] 26)) W → Calls Try.prog 38 #[.slice A l.length c] W fun e w' => ∃ v, e = .returned v ∧ w'.ownsRow W.heap.size 26 2 v l.length (ptCells l) ∧ Mod No W w' := fun W hW =>
    clone_own (S := fun b => S b ∧ b < w.heap.size) A c l W ((hx.mono (fun b hb hs => ⟨hs, hb⟩)).keeps (Mod.keeps (((Mod.refl No w).alloc _).trans hW) (fun _ _ _ => id))) (by omega)
  have hdf : ∀ W v B, Mod No (w.alloc (.cells #[.int .u32 p.ip, .int .u16 p.port] 26)) W → W.ownsRow B 26 2 v l.length (ptCells l) → w.heap.size + 1 ≤ B → Calls Try.prog 37 #[v, .func (.func 39) #[] #[.pointer (some ⟨w.heap.size, 0, none⟩)]] W fun e w' => ∃ v', e = .returned v' ∧ w'.ownsRow B 26 2 v' (keep (fun x => decide (x = p)) l).length (ptCells (keep (fun x => decide (x = p)) l)) ∧ Mod No (w.alloc (.cells #[.int .u32 p.ip, .int .u16 p.port] 26)) w' ∧ Mod (fun b => v.ownBlock = some b) W w' := fun W v B hW hown hB =>
    (deleteFunc_ok _ _ _ l W hown (by omega) (peer1_ok _ W _ p (fun e => by have := (hown.lt _ e).1; omega) (hW.obj (at10 w _) id))).mono fun e w' ⟨v', h1, h2, h3, h4⟩ => ⟨v', h1, h2, hW.trans' h4 (fun i hi hg => by have := (hown.lt _ hg).1; simp at hi; omega), h4⟩
  have hold : ∀ w', Mod No (w.alloc (.cells #[.int .u32 p.ip, .int .u16 p.port] 26)) w' → w'.cell? ⟨w.heap.size, 0, none⟩ = some (.int .u32 p.ip) ∧ w'.cell? ⟨w.heap.size, 1, none⟩ = some (.int .u16 p.port) := fun w' hm => ⟨(blk_cell (hm.obj (at10 w _) id) 0).trans rfl, (blk_cell (hm.obj (at10 w _) id) 1).trans rfl⟩
  have HC := Lib.hid hcl
  have HD := Lib.hid hdf
  have HO := Lib.hid hold
  have HL := Lib.hid hl
  have HK := Lib.hid (keep_le (fun x => decide (x = p)) l)
  clear hx hl hcl hdf hold
  unfold Point.val
  go_enter Try.func12, Try.ntmps12
  go_upto_region 1 with fail
  go_cut [5] (fun s5 wx => wx.ownsRow (w.heap.size + 1) 26 2 s5 ((keep (fun x => decide (x = p)) l).length + 1) (ptCells (keep (fun x => decide (x = p)) l ++ [p])) ∧ Mod No (w.alloc (.cells #[.int .u32 p.ip, .int .u16 p.port] 26)) wx)
  case first =>
    go_region_held3 (fun w' => w'.cell? ⟨w.heap.size, 0, none⟩ = some (.int .u32 p.ip) ∧ w'.cell? ⟨w.heap.size, 1, none⟩ = some (.int .u16 p.port))
      ((refine HO.out _ ?_; repeat (first | with_reducible exact Mod.refl _ _ | with_reducible exact hz5 | with_reducible exact hz4 | with_reducible exact hz3 | refine Mod.alloc ?_ _ | refine Mod.drew ?_)))
      (first | (go_at_call 38; refine (HC.out _ ?_).mono ?_; (repeat (first | with_reducible exact Mod.refl _ _ | refine Mod.alloc ?_ _ | refine Mod.drew ?_)); rintro e w3 ⟨v3, rfl, own3, hm3⟩; have hz3 : Mod No (w.alloc (.cells #[.int .u32 p.ip, .int .u16 p.port] 26)) w3 := Mod.trans (by repeat (first | with_reducible exact Mod.refl _ _ | refine Mod.alloc ?_ _ | refine Mod.drew ?_)) hm3) | (go_at_call 37; refine (HD.out _ v3 _ ?_ (own_mod own3 (F := No) ?_ (fun _ _ => id)) (by simp)).mono ?_; (repeat (first | with_reducible exact Mod.refl _ _ | with_reducible exact hz5 | with_reducible exact hz4 | with_reducible exact hz3 | refine Mod.alloc ?_ _ | refine Mod.drew ?_)); (repeat (first | with_reducible exact Mod.refl _ _ | with_reducible exact hz5 | with_reducible exact hz4 | with_reducible exact hz3 | refine Mod.alloc ?_ _ | refine Mod.drew ?_)); rintro e w4 ⟨v4, rfl, own4, hz4, hm4⟩) | (refine step_append_pt (by rfl) _ _ (by rfl) v4 (keep (fun x => decide (x = p)) l) (w.heap.size + 1) (by rfl) (own_base_le (own_mod own4 (F := No) ?_ (fun _ _ => id)) (by simp)) (by have := HK.out; have := HL.out; omega) _ _ p (by rfl) ?_ ?_ ?_; (repeat (first | with_reducible exact Mod.refl _ _ | refine Mod.alloc ?_ _ | refine Mod.drew ?_)); (first | exact at10 w4 _ | exact hm4.obj (at10 w3 _) (fun e => by have := (own3.lt _ e).2; omega) | exact hm4.obj (hm3.obj (at21d w _ _) id) (fun e => by have := (own3.lt _ e).1; first | (simp at this; done) | (simp at this; omega)) | exact hm4.obj (hm3.obj (at21 w _ _) id) (fun e => by have := (own3.lt _ e).1; first | (simp at this; done) | (simp at this; omega))); (have := hz4.size; simp at this; first | omega | (simp; done) | (simp; omega)); intro g cap w5 own5 hgrow; have hz5 : Mod No (w.alloc (.cells #[.int .u32 p.ip, .int .u16 p.port] 26)) w5 := Mod.grown (by repeat (first | with_reducible exact hz4 | refine Mod.alloc ?_ _ | refine Mod.drew ?_)) hgrow (fun k hk => .inl (by have := (own4.lt _ hk).1; simp at this; first | omega | (simp; done) | (simp; omega)))))
    all_goals (go_wp2_with fail; go_meet; exact ⟨own5, hz5⟩)
  case rest =>
  obtain ⟨hown, hm⟩ := hcut
  have HM := Lib.hid hm
  obtain ⟨g, cap, rfl, _, _⟩ := hown.form (by omega)
  obtain ⟨n, hn⟩ : ∃ n, n = (keep (fun x => decide (x = p)) l).length := ⟨_, rfl⟩
  rw [← hn] at hown
  rw [← hn]
  obtain ⟨A', c', he, hcap, hrow⟩ := RowAt.of_owns hown
  cases he
  clear hm
  have hpl : (peer l p).length = n + 1 - (n + 1 - 8) := by rw [peer, List.length_drop, List.length_append, ← hn]; rfl
  have hbig : n ≤ 60000 := by have := HK.out; have := HL.out; omega
  have hcln : ∀ k c', k = n + 1 - 8 → Calls Try.prog 38 #[.slice (some ⟨g, k * 2, none⟩) (n + 1 - k) c'] wc fun e w' => ∃ v, e = .returned v ∧ w'.ownsRow wc.heap.size 26 2 v (peer l p).length (ptCells (peer l p)) ∧ Mod No wc w' := by
    intro k c' hk
    subst hk
    rw [← hpl]
    refine clone_own (S := fun b => w.heap.size + 1 ≤ b) _ _ (peer l p) wc ?_ (by rw [hpl]; omega)
    rw [peer, ← hn]
    have := row_drop hrow (n + 1 - 8)
    rwa [Nat.zero_add] at this
  have HN := Lib.hid hn
  have HCN := Lib.hid hcln
  have hsz := HM.out.size
  simp at hsz
  clear hn hown hrow hpl hcln
  by_cases h8 : n + 1 < 8
  · have h8i : (n : Int) + 1 - 8 < 0 := by omega
    have hc := HCN.out 0 cap (by omega)
    rw [Nat.zero_mul, Nat.sub_zero] at hc
    have HC0 := Lib.hid hc
    clear hc
    go_wp2_with fail
    refine HC0.out.mono ?_
    rintro e w6 ⟨v6, rfl, own6, hm6⟩
    have H6 := Lib.hid (And.intro (own_base_le own6 (Nat.le_of_lt hsz)) (((Mod.refl No w).alloc _).trans (HM.out.trans hm6)))
    clear own6 hm6
    go_wp2
    go_ret
    exact ⟨_, rfl, H6.out.1, H6.out.2⟩
  · have h8i : ¬ (n : Int) + 1 - 8 < 0 := by omega
    have HC0 := Lib.hid (HCN.out (n - 7) (cap - (n - 7)) (by omega))
    go_wp2_with fail
    refine HC0.out.mono ?_
    rintro e w6 ⟨v6, rfl, own6, hm6⟩
    have H6 := Lib.hid (And.intro (own_base_le own6 (Nat.le_of_lt hsz)) (((Mod.refl No w).alloc _).trans (HM.out.trans hm6)))
    clear own6 hm6
    go_wp2
    go_ret
    exact ⟨_, rfl, H6.out.1, H6.out.2⟩
end Go.Proofs.Ytimbhkbdmcbodaa
