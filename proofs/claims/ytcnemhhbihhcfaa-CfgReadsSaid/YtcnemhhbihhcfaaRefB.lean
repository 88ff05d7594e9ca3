/-
  Bytes put behind bytes in a region that draws its order; a name, pairs, put behind.
-/
import Derived.Test.YtcnemhhbihhcfaaRefA
import Derived.Lib.AppendStr
namespace Go.Proofs.Ytcnemhhbihhcfaa
open Go.RowKit
set_option linter.unusedVariables false

/-- Bytes that lie somewhere are put behind one's own. -/
theorem step_gr {w : World} {ops : Array Oper} {o : Oper} {a : Act} {K : Act → World → Prop} {Q : Exit → Act → World → Prop} {E : Prop} (hgd : o.guard = none) (s x : Operand)
    (ho : o.op = .call { callee := .builtin .append, args := #[s, x], argTypes := #[34, 34] }) {w0 : World} {base : Nat} {v0 v : Value} {L : List UInt8} (gr : Gr base v0 w0 v w L) (hs : a.eval s = v)
    (X : List UInt8) (ad : Addr) (m c : Nat) (hx : a.eval x = .slice (some ad) m c) (hm : m = X.length) (hc : ∀ j u, (bcells X)[j]? = some u → w.cell? (ad.add j) = some u) (hl : L.length + X.length ≤ 100000000) (hm0 : X ≠ []) (hbase : base ≤ w.heap.size)
    (h : ∀ v' w', Gr base v0 w0 v' w' (L ++ X) → Mod (fun b => v.ownBlock = some b) w w' → K (a.put o.dst v') w') :
    if Region.wanted o (yielded ops a.tmps) = true then Oper.wp Try.prog o a w K Q else E := by
  subst hm
  refine step_append_bytes hgd s x ho v L base hs gr.own ad c X hx hc hl (List.length_pos_iff.2 hm0) hbase ?_
  intro g cap w' h1 h2 h3
  have hmd : Mod (fun b => v.ownBlock = some b) w w' := Mod.grown (Mod.refl _ _) h2 (fun k hk => .inr hk)
  refine h _ _ (gr.trans ⟨h1, hmd, fun g' hg' => ?_⟩) hmd
  obtain rfl : g = g' := by simpa [Value.ownBlock] using hg'
  rcases h3 with h3 | h3
  · exact .inl h3
  · exact .inr (by omega)

theorem str_cells (l : List UInt8) : Go.Lib.strCells (str l) = bcells l := rfl
/-- A text's bytes put behind one's own, in a world that is told which row it is. -/
theorem run_append_text {w : World} {base : Nat} {v : Value} {L : List UInt8} (h : OwnB w base v L) (t : List UInt8) (hl : L.length + t.length ≤ 100000000) (hb : base ≤ w.heap.size) (ty : TypeId) :
    ∃ v' w', (Builtin.append_ #[34, 9] ty #[v, .string (str t)]).run Try.prog w = .ok v' w' ∧ Gr base v w v' w' (L ++ t) := by
  obtain ⟨i0, hi, hz0, hz1, hz2⟩ := info_parts infoU8
  obtain ⟨v', w', hr, h1, h2, h3⟩ := Go.Lib.run_append_own_string (P := Try.prog) w base 34 9 ty 5 i0 Try.underlying34 Try.underlying9 hi hz0 hz1 hz2 v L.length (bcells L) h (str t) (by rw [str_size]; unfold maxLen; omega) (by rw [str_size]; omega) hb
  refine ⟨v', w', hr, ?_⟩
  rw [str_size, str_cells] at h1
  refine gr_append h1 h2 ?_
  rcases h.2 with ⟨rfl, h0⟩ | ⟨g, cap, cur, rfl, hbg, hg, hnc, hcm, hcs, htake⟩
  · by_cases hm : t.length = 0
    · have := h3.2 ⟨rfl, by rw [str_size]; exact hm⟩
      exact .inl (by rw [this])
    · have hr' := run_append_nil_string (P := Try.prog) w 34 9 ty 5 i0 (.int .u8 0) Try.underlying34 Try.underlying9 hi hz0 (str t) (by rw [str_size]; omega) (by rw [str_size]; omega) (by rw [hz2, str_size]; omega)
      rw [hr] at hr'
      injection hr' with e1 e2
      exact .inr (by rw [e1]; rfl)
  · by_cases hroom : L.length + t.length ≤ cap
    · have hcs' : cur.size = cap := by simpa using hcs
      have hr' := Go.Lib.run_append_room_string (P := Try.prog) w 34 9 ty 5 i0 Try.underlying34 Try.underlying9 hi hz1 g L.length cap cur hg (str t) (by rw [str_size]; exact hroom) (by rw [str_size]; omega)
      rw [hr] at hr'
      injection hr' with e1 e2
      exact .inl (by rw [e1]; rfl)
    · have holds : ∀ j u, (bcells L)[j]? = some u → w.cell? ((⟨g, 0, none⟩ : Addr).add j) = some u := h.cells (g := g) rfl
      have hr' := Go.Lib.run_append_grow_string (P := Try.prog) w 34 9 ty 5 i0 (.int .u8 0) Try.underlying34 Try.underlying9 hi hz0 ⟨g, 0, none⟩ L.length cap (bcells L) (by rw [hz1, bcells_length]; omega) holds (str t) (by rw [str_size]; omega) (by rw [str_size]; omega) (by rw [hz2]; exact growslice_fits (by rw [str_size]; omega) (by rw [str_size]; omega))
      rw [hr] at hr'
      injection hr' with e1 e2
      exact .inr (by rw [e1]; rfl)
theorem step_gr_text {w : World} {ops : Array Oper} {o : Oper} {a : Act} {K : Act → World → Prop} {Q : Exit → Act → World → Prop} {E : Prop} (hgd : o.guard = none) (s x : Operand)
    (ho : o.op = .call { callee := .builtin .append, args := #[s, x], argTypes := #[34, 9] }) {w0 : World} {base : Nat} {v0 v : Value} {L : List UInt8} (gr : Gr base v0 w0 v w L) (hs : a.eval s = v)
    (X : List UInt8) (hx : a.eval x = .string (str X)) (hl : L.length + X.length ≤ 100000000) (hbase : base ≤ w.heap.size)
    (h : ∀ v' w', Gr base v0 w0 v' w' (L ++ X) → Mod (fun b => v.ownBlock = some b) w w' → K (a.put o.dst v') w') :
    if Region.wanted o (yielded ops a.tmps) = true then Oper.wp Try.prog o a w K Q else E := by
  have hw : Region.wanted o (yielded ops a.tmps) = true := by simp [Region.wanted, hgd]
  rw [if_pos hw]
  obtain ⟨v', w', hr, hg⟩ := run_append_text gr.own X hl hbase o.type
  unfold Oper.wp execOp
  simp only [ho, resolve, invoke, builtin, Sem.run_bind, Sem.run_pure, Result.andThen_ok, List.map_toArray, List.map_cons, List.map_nil, hs, hx, hr]
  exact h _ _ (gr.trans hg) hg.mod

theorem str_take (l : List UInt8) (k : Nat) : (str l).extract 0 k = str (l.take k) := by
  apply ByteArray.ext
  apply Array.ext'
  simp [str]
set_option maxRecDepth 100000 in
theorem refName_ok {w : World} {base : Nat} {v : Value} {L : List UInt8} (h : OwnB w base v L) (hb : base ≤ w.heap.size) (hL : L.length ≤ 90000000) (l : List UInt8) (hl : l.length ≤ 100000000) :
    Calls Try.prog 40 #[v, .string (str l)] w fun e w' => ∃ v', e = .returned v' ∧ Gr base v w v' w' (L ++ nameB' l) := by
  obtain ⟨k, hk⟩ : ∃ k, k = min l.length 255 := ⟨_, rfl⟩
  obtain ⟨n, hn⟩ : ∃ n, n = l.length := ⟨_, rfl⟩
  have hmin : min (n : Int) 255 = k := by omega
  have hsz : (str l).size = n := by rw [str_size, hn]
  have hext : (str l).extract 0 k = str (l.take 255) := by rw [str_take, hk, take_min]
  have hk1 : (k : Int) ≤ n := by omega
  have hk8 : IntKind.u8.wrap (k : Int) = k := by simp [IntKind.wrap, IntKind.bits, IntKind.signed]; omega
  have hbe : bcells (be 1 k) = [.int .u8 (k : Int)] := by
    have : k < 256 := by omega
    simp [be, bcells]
    omega
  have hX : nameB' l = be 1 k ++ l.take 255 := by rw [nameB', hk]
  rw [hX]
  obtain ⟨T, hT⟩ : ∃ T, T = l.take 255 := ⟨_, rfl⟩
  rw [← hT] at hext
  rw [← hT]
  have HT := Lib.hid (show T.length ≤ 255 by rw [hT]; exact List.length_take_le _ _)
  obtain ⟨X1, hX1⟩ : ∃ X1, X1 = be 1 k := ⟨_, rfl⟩
  rw [← hX1] at hbe
  rw [← hX1]
  have HBE := Lib.hid hbe
  have HX1 := Lib.hid (show X1.length = 1 by rw [hX1]; exact be_length _ _)
  have HGR := Lib.hid (Gr.refl h)
  have HL := Lib.hid hL
  have HB := Lib.hid hb
  clear h hL hb hX hbe hk hn hl hX1 hT
  go_enter Try.func40, Try.ntmps40
  go_wp2_with fail
  go_region_law (first
    | (refine step_gr (by rfl) _ _ (by rfl) (Gr.ext HGR.out ?_) (by rfl) X1 _ _ _ (by rfl) ?_ ?_ ?_ ?_ ?_ ?_;
       (exact ((Mod.refl No w).drew).alloc _);
       (exact HX1.out.symm);
       (rw [HBE.out]; exact World.news_of_block (at10 _ _));
       (have := HL.out; have := HX1.out; omega);
       (intro e; have := HX1.out; rw [e] at this; simp at this);
       (have := HB.out; simp; omega);
       intro v1 w1 gr1 _; have H1 := Lib.hid gr1; clear gr1)
    | (refine step_gr_text (by rfl) _ _ (by rfl) H1.out (by rfl) T (by rfl) ?_ ?_ ?_;
       (have := HL.out; have := HX1.out; have := HT.out; rw [List.length_append]; omega);
       (have := HB.out; have := H1.out.mod.size; omega);
       intro v2 w2 gr2 _; have H2 := Lib.hid gr2; clear gr2))
  all_goals
    go_wp2
    go_ret
    refine ⟨v2, rfl, ?_⟩
    rw [← List.append_assoc]
    exact H2.out

theorem OwnB.ge {w : World} {base : Nat} {v : Value} {L : List UInt8} (h : OwnB w base v L) {g : Nat} (hg : v.ownBlock = some g) : base ≤ g ∧ g < w.heap.size := by
  rcases h.2 with ⟨rfl, _⟩ | ⟨g', cap, cur, rfl, hb, hh, _⟩
  · simp [Value.ownBlock] at hg
  · obtain rfl : g' = g := by simpa [Value.ownBlock] using hg
    exact ⟨hb, lt_of_block hh⟩
theorem OwnB.keeps {w w' : World} {base : Nat} {v : Value} {L : List UInt8} (h : OwnB w base v L) (hm : Mod (fun b => v.ownBlock = some b) w w') : Keeps (· < base) w w' :=
  hm.keeps fun b hb hs f => by have := (h.ge f).1; omega
set_option maxRecDepth 100000 in
theorem refPairs_ok {w : World} {base : Nat} {v : Value} {L : List UInt8} (h : OwnB w base v L) (hb : base ≤ w.heap.size) (hL : L.length ≤ 80000000) (l : List Pr) (hl : l.length ≤ 100000000) (hz : ∀ x ∈ l, x.a < 4294967296 ∧ x.b < 4294967296) {A : Option Addr} {c : Nat} (hrow : RowAt (· < base) w A (prCells l)) :
    Calls Try.prog 42 #[v, .slice A l.length c] w fun e w' => ∃ v', e = .returned v' ∧ Gr base v w v' w' (L ++ prs8 (l.take 255)) := by
  obtain ⟨n, hn⟩ : ∃ n, n = l.length := ⟨_, rfl⟩
  rw [← hn]
  have hn8 : n ≤ 100000000 := by omega
  have HN := Lib.hid hn
  have H0 := Lib.hid (And.intro h (And.intro hrow (And.intro hb (And.intro hL hz))))
  clear h hb hL hz hrow hn hl
  go_enter Try.func42, Try.ntmps42
  go_wp2
  go_loopw [5, 0] (fun i b wr => ∃ (j : Nat) (v' : Value), i = .int .i64 j ∧ v' = b ∧ j ≤ n ∧ j ≤ 255 ∧ Gr base v w v' wr (L ++ prs8 (l.take j))) (fun i _ _ => 255 - (intOf i).toNat)
  case atStart => exact ⟨0, v, rfl, rfl, by omega, by omega, by simpa [prs8] using Gr.refl H0.out.1⟩
  case round =>
    obtain ⟨j, v', rfl, rfl, hj, hj8, hg⟩ := hrel
    have HG := Lib.hid hg
    clear hg
    by_cases hlt : j < n
    · by_cases h255 : j < 255
      · obtain ⟨z, hz⟩ : ∃ z, l[j]? = some z := ⟨_, List.getElem?_eq_getElem (by have := HN.out; omega)⟩
        have hkp := H0.out.1.keeps HG.out.mod
        obtain ⟨b, o, rfl, hbb, hblt, hx0, hx1⟩ := prs_at (H0.out.2.1.keeps hkp) hz
        have hzz := H0.out.2.2.2.2 z (List.mem_of_getElem? hz)
        have HZ := Lib.hid (And.intro hz hzz)
        have p1 : (0:Int) ≤ j := by omega
        have p2 : (j:Int) < n := by omega
        have p3 : (j:Int) < 255 := by omega
        have hlen : (prs8 (l.take j)).length ≤ 8 * 255 := by rw [prs8_length, List.length_take]; omega
        have HX := Lib.hid (And.intro hlen (And.intro hbb hx1))
        have hP1 : ∀ W, Mod No wr W → Calls Try.prog 39 #[v', .int .u32 (z.a : Int)] W fun e w' => ∃ v2, e = .returned v2 ∧ Gr base v w v2 w' (L ++ prs8 (l.take j) ++ be 4 z.a) ∧ w'.cell? ⟨b, o + j * 2 + 1, none⟩ = some (.int .u32 (z.b : Int)) := by
          intro W hW
          have hge := HG.out.ext hW
          refine (put32_ok hge.own (Nat.le_trans H0.out.2.2.1 hge.mod.size) (by have := H0.out.2.2.2.1; rw [List.length_append]; omega) z.a hzz.1).mono fun e w' ⟨v2, e1, g1⟩ => ⟨v2, e1, hge.trans g1, ?_⟩
          exact g1.mod.cell (hW.cell hx1 id) (fun f => by have hbb' : b < base := hbb; have := (hge.own.ge f).1; simp at this; omega)
        have hP2 : ∀ W w1 v2, Gr base v w v2 w1 (L ++ prs8 (l.take j) ++ be 4 z.a) → Mod No w1 W → Calls Try.prog 39 #[v2, .int .u32 (z.b : Int)] W fun e w' => ∃ v3, e = .returned v3 ∧ Gr base v w v3 w' (L ++ prs8 (l.take (j + 1))) := by
          intro W w1 v2 g1 hW
          have hge := g1.ext hW
          refine (put32_ok hge.own (Nat.le_trans H0.out.2.2.1 hge.mod.size) (by have := H0.out.2.2.2.1; rw [List.length_append, List.length_append, be_length]; omega) z.b hzz.2).mono fun e w' ⟨v3, e1, g2⟩ => ⟨v3, e1, ?_⟩
          have := hge.trans g2
          rw [take_snoc' hz, prs8, List.flatMap_append, ← List.append_assoc]
          simpa [prs8] using this
        have HP1 := Lib.hid hP1
        have HP2 := Lib.hid hP2
        clear hP1 hP2 hz hzz hkp hlen
        go_wp2_with fail
        go_region_law (first
          | (go_simp; go_at_call 39; refine (HP2.out _ w1 v2 H1.out ?_).mono ?_; (repeat (first | with_reducible exact Mod.refl _ _ | refine Mod.drew ?_)); rintro e w2 ⟨v3, rfl, g2⟩; have H2 := Lib.hid g2; clear g2)
          | (go_simp; go_at_call 39; refine (HP1.out _ ?_).mono ?_; (repeat (first | with_reducible exact Mod.refl _ _ | refine Mod.drew ?_)); rintro e w1 ⟨v2, rfl, g1, d1⟩; have H1 := Lib.hid g1; clear g1))
        all_goals
          go_wp2
          refine ⟨⟨j + 1, v3, by go_num, rfl, by omega, by omega, H2.out⟩, by simp [intOf]; omega⟩
      · obtain rfl : j = 255 := by omega
        go_wp2
        go_ret
        exact ⟨v', rfl, HG.out⟩
    · have hk' : j = n := by omega
      subst hk'
      have hf : l.take 255 = l.take j := by rw [List.take_of_length_le (by have := HN.out; omega), List.take_of_length_le (by have := HN.out; omega)]
      have HF := Lib.hid hf
      clear hf
      go_wp2
      go_ret
      refine ⟨v', rfl, ?_⟩
      rw [HF.out]
      exact HG.out

end Go.Proofs.Ytcnemhhbihhcfaa
