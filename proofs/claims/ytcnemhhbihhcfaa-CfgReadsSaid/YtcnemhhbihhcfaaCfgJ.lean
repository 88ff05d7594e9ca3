/-
  Package cfg, tenth part: a change read: refused, or a name.
-/
import Derived.Test.YtcnemhhbihhcfaaCfgI
import Derived.Laws.Rows
namespace Go.Proofs.Ytcnemhhbihhcfaa
open Go.RowKit
set_option linter.unusedVariables false

/-- A change's cells. -/
def chgCells (put : Bool) (name : List UInt8) (t : Ten) (vp vs vt : Value) : Array Value := #[.bool put, .string (str name)] ++ t.cells vp vs vt
def zChg : Array Value := chgCells false [] .zero (.slice none 0 0) (.slice none 0 0) (.slice none 0 0)

theorem results_cell_tmp {P : Program} {fn : Func} {p q : Tmp} {ty : TypeId} (h : fn.results = #[.cell p ty, .tmp q]) (tmps : Array Value) (w : World) (g : Nat) (t : TypeId) (cs : Array Value) (fr : Nat × Nat) (d : TypeDesc)
    (hp : tmps.getD p undef = .pointer (some ⟨g, 0, none⟩)) (hg : w.heap[g]? = some (.cells cs t fr))
    (hu : P.underlying ty = some d) (hd : (match d with | .struct _ | .array _ _ => true | _ => false) = true) (hi : (P.info? ty).map (·.size) = some cs.size) :
    (results fn tmps).run P w = .ok (.tuple #[.agg cs, tmps.getD q undef]) w := by
  have hp' : tmps[p]?.getD undef = .pointer (some ⟨g, 0, none⟩) := by simpa using hp
  simp [results, h, hp', asAddr, run_loadVar_row w g t ty cs fr d hg hu hd hi]

theorem chgSize : (Try.prog.info? 38).map (·.size) = some 35 := by kernel_rfl
set_option maxRecDepth 100000 in
theorem alloc_chg : ∀ W, (Instr.alloc 38 true (.tuple #[])).run Try.prog W = .ok (.pointer (some ⟨W.heap.size, 0, none⟩)) (W.alloc (.cells zChg 38)) := fun W => by kernel_rfl
set_option maxRecDepth 100000 in
theorem build_chg : ∀ W, (Instr.build 38 #[]).run Try.prog W = .ok (.agg zChg) W := fun W => by kernel_rfl
set_option maxRecDepth 100000 in
theorem build_run (ρ : Operand → Value) (W : World) {dst : Option Tmp} {ty : TypeId} {pos : String} {after : Array Edge} {g : Option (Nat × Bool)} : (execOp ρ { dst := dst, op := .build 38 #[], type := ty, pos := pos, after := after, guard := g }).run Try.prog W = .ok (.value (.agg zChg)) W := by
  show ((do pure (Next.value (← Instr.build 38 (#[].map fun (i, x) => (i, ρ x)))) : Sem Next)).run Try.prog W = _
  simp only [Array.map_empty, Sem.run_bind, build_chg, Result.andThen_ok, Sem.run_pure]
set_option maxRecDepth 100000 in
theorem build1_run (b : Bool) (ρ : Operand → Value) (W : World) {x : Operand} (hx : ρ x = .bool b) {dst : Option Tmp} {ty : TypeId} {pos : String} {after : Array Edge} {g : Option (Nat × Bool)} : (execOp ρ { dst := dst, op := .build 38 #[(0, x)], type := ty, pos := pos, after := after, guard := g }).run Try.prog W = .ok (.value (.agg (chgCells b [] .zero (.slice none 0 0) (.slice none 0 0) (.slice none 0 0)))) W := by
  have hb : (Instr.build 38 #[(0, .bool b)]).run Try.prog W = .ok (.agg (chgCells b [] .zero (.slice none 0 0) (.slice none 0 0) (.slice none 0 0))) W := by cases b <;> kernel_rfl
  show ((do pure (Next.value (← Instr.build 38 (#[(0, x)].map fun (i, x) => (i, ρ x)))) : Sem Next)).run Try.prog W = _
  have hm : (#[((0 : Nat), x)].map fun (i, x) => (i, ρ x)) = #[(0, .bool b)] := by simp [hx]
  rw [hm]
  simp only [Sem.run_bind, hb, Result.andThen_ok, Sem.run_pure]
theorem alloc_op (ρ : Operand → Value) (W : World) {dst : Option Tmp} {ty : TypeId} {pos : String} {after : Array Edge} {g : Option (Nat × Bool)} : (execOp ρ { dst := dst, op := .alloc 38, type := ty, pos := pos, after := after, guard := g }).run Try.prog W = .ok (.value (.pointer (some ⟨W.heap.size, 0, none⟩))) (W.alloc (.cells zChg 38)) := by
  show ((do pure (Next.value (← Instr.alloc 38 true (.tuple #[]))) : Sem Next)).run Try.prog W = _
  simp only [Sem.run_bind, alloc_chg, Result.andThen_ok, Sem.run_pure]
theorem store_chg {W : World} {b : Nat} {old CA : Array Value} (h : W.heap[b]? = some (.cells old 38 (0, 0))) (ho : old.size = 35) (hc : CA.size = 35) (h1 : CA.all (·.oneCell') = true) :
    (Instr.storeAt 38 (.pointer (some ⟨b, 0, none⟩)) (.agg CA)).run Try.prog W = .ok () (W.setRow b CA) := by
  simp only [Instr.storeAt, Instr.sureAddr, Sem.run_bind, Sem.run_pure, Result.andThen_ok]
  exact run_storeVar_row W b _ _ old CA h (by rw [chgSize, hc]) (by rw [ho, hc]) h1
theorem load_chg {W : World} {b : Nat} {CA : Array Value} (h : W.heap[b]? = some (.cells CA 38 (0, 0))) (hc : CA.size = 35) :
    (Instr.loadAt 38 (.pointer (some ⟨b, 0, none⟩))).run Try.prog W = .ok (.agg CA) W := by
  simp only [Instr.loadAt, Instr.sureAddr, Sem.run_bind, Sem.run_pure, Result.andThen_ok]
  exact run_loadVar_row W b _ _ CA (0, 0) _ h Try.underlying38 rfl (by rw [chgSize, hc])

section
variable {P : Program} {ops : Array Oper} {Q : Exit → Act → World → Prop}
theorem step_none {o : Oper} {rest : List Oper} {a : Act} {w w' : World} (hw : Region.wanted o (yielded ops a.tmps) = true) (hr : (execOp a.eval o).run P w = .ok .skip w') (h : wpList P ops Q rest (a.put o.dst undef) w') : wpList P ops Q (o :: rest) a w := by
  refine wpList_step fun K hK => ?_
  rw [if_pos hw]
  unfold Oper.wp
  rw [hr]
  exact hK _ _ h
theorem run_store_op {a : Act} {o : Oper} {t : TypeId} {x y : Operand} {pv v : Value} {W W' : World} (ho : o.op = .store t x y) (hx : a.eval x = pv) (hy : a.eval y = v) (rs : (Instr.storeAt t pv v).run P W = .ok () W') : (execOp a.eval o).run P W = .ok .skip W' := by
  simp only [execOp, ho, hx, hy, Sem.run_bind, rs, Result.andThen_ok, Sem.run_pure]
end
theorem load_op {P : Program} {ρ : Operand → Value} {t : TypeId} {x : Operand} {pv v : Value} {W : World} {dst : Option Tmp} {ty : TypeId} {pos : String} {after : Array Edge} {g : Option (Nat × Bool)} (hx : ρ x = pv) (rs : (Instr.loadAt t pv).run P W = .ok v W) : (execOp ρ { dst := dst, op := .load t x, type := ty, pos := pos, after := after, guard := g }).run P W = .ok (.value v) W := by
  show ((do pure (Next.value (← Instr.loadAt t (ρ x)))) : Sem Next).run P W = _
  rw [hx]
  simp only [Sem.run_bind, rs, Result.andThen_ok, Sem.run_pure]
theorem chg_set (xs : List UInt8) : zChg.setIfInBounds 1 (.string (str xs)) = chgCells false xs .zero (.slice none 0 0) (.slice none 0 0) (.slice none 0 0) := by
  simp [chgCells, zChg, Ten.cells]
theorem chg_size (b : Bool) (xs : List UInt8) (t : Ten) (vp vs vt : Value) : (chgCells b xs t vp vs vt).size = 35 := by simp [chgCells, Ten.cells]
theorem zSize : zChg.size = 35 := rfl
theorem zOne : zChg.all (·.oneCell') = true := by decide +kernel

set_option maxRecDepth 100000 in
theorem openChange_nil {w : World} (A : Option Addr) (c : Nat) :
    Calls Try.prog 18 #[.slice A 0 c] w fun e w' => e = .returned (.tuple #[.agg zChg, .int .i64 70]) ∧ Mod No w w' := by
  go_enter Try.func18, Try.ntmps18
  go_upto_region 2 with fail
  refine wp_region_lit ?_
  refine step_val (v := .agg zChg) (want_none rfl) (build_run _ _) ?_
  refine step_none (want_none rfl) (run_store_op (by rfl) (by rfl) (by rfl) (store_chg (at10 w _) rfl zSize zOne)) ?_
  refine step_val (v := .int .i64 70) (want_none rfl) rfl ?_
  refine wpList_nil ?_
  simp only [Act.put, List.setIfInBounds_toArray, List.set_cons_zero, List.set_cons_succ]
  go_wp2
  refine bodyPost_ret (results_cell_tmp rfl _ _ w.heap.size 38 zChg (0, 0) _ rfl (setRow_heap _ _ _ _ _ _ (at10 w _)) Try.underlying38 rfl (by rw [chgSize, zSize])) rfl ?_
  exact ⟨rfl, ((Mod.refl No w).alloc _).trans' (setRow_mod _) (fun i hi hg => by omega)⟩

set_option maxRecDepth 100000 in
theorem openChange_bad {S : Nat → Prop} {w : World} (A : Option Addr) (n c : Nat) (x : UInt8) (r : List UInt8) (hrow : RowAt S w A (bcells (x :: r))) (hn : n = r.length + 1) (hx : 1 < x.toNat) :
    Calls Try.prog 18 #[.slice A n c] w fun e w' => e = .returned (.tuple #[.agg zChg, .int .i64 70]) ∧ Mod No w w' := by
  obtain ⟨b, o, rfl, _, hlt, hc⟩ := hrow.open (by simp [bcells])
  have c0 := hc 0 (.int .u8 (x.toNat : Int)) rfl
  rw [Nat.add_zero] at c0
  have p0 : ((n : Int) == 0) = false := by rw [beq_eq_false_iff_ne]; omega
  have p1 : (0 : Int) < n := by omega
  have p2 : decide ((1 : Int) < (x.toNat : Int)) = true := by rw [decide_eq_true_eq]; omega
  clear hrow hc hn hx
  go_enter Try.func18, Try.ntmps18
  go_upto_region 2 with fail
  refine wp_region_lit ?_
  refine step_val (v := .agg zChg) (want_none rfl) (build_run _ _) ?_
  refine step_none (want_none rfl) (run_store_op (by rfl) (by rfl) (by rfl) (store_chg (at10 w _) rfl zSize zOne)) ?_
  refine step_val (v := .int .i64 70) (want_none rfl) rfl ?_
  refine wpList_nil ?_
  simp only [Act.put, List.setIfInBounds_toArray, List.set_cons_zero, List.set_cons_succ]
  go_wp2
  refine bodyPost_ret (results_cell_tmp rfl _ _ w.heap.size 38 zChg (0, 0) _ rfl (setRow_heap _ _ _ _ _ _ (at10 w _)) Try.underlying38 rfl (by rw [chgSize, zSize])) rfl ?_
  exact ⟨rfl, ((Mod.refl No w).alloc _).trans' (setRow_mod _) (fun i hi hg => by omega)⟩

set_option maxRecDepth 100000 in
theorem openChange_name {S : Nat → Prop} {w : World} (A : Option Addr) (n c : Nat) (r : List UInt8) (hrow : RowAt S w A (bcells (0 :: r))) (hn : n = r.length + 1) (hc : n ≤ c) (hn8 : n ≤ 100000000) :
    Calls Try.prog 18 #[.slice A n c] w fun e w' => e = .returned (if (rname (0 :: r) (1, false)).2 = (n, false) then .tuple #[.agg (chgCells false (rname (0 :: r) (1, false)).1 .zero (.slice none 0 0) (.slice none 0 0) (.slice none 0 0)), .int .i64 0] else .tuple #[.agg zChg, .int .i64 70]) ∧ Mod No w w' := by
  obtain ⟨b, o, rfl, _, hlt, hcl⟩ := hrow.open (by simp [bcells])
  have c0 := hcl 0 (.int .u8 0) rfl
  rw [Nat.add_zero] at c0
  have p0 : ((n : Int) == 0) = false := by rw [beq_eq_false_iff_ne]; omega
  have p1 : (0 : Int) < n := by omega
  have HR := Lib.hid hrow
  have HN := Lib.hid hn
  clear hrow hcl hn
  obtain ⟨B, hB⟩ : ∃ B, B = 0 :: r := ⟨_, rfl⟩
  rw [← hB]
  obtain ⟨xs, hxs⟩ : ∃ xs, xs = (rname B (1, false)).1 := ⟨_, rfl⟩
  obtain ⟨st, hst⟩ : ∃ st, st = (rname B (1, false)).2 := ⟨_, rfl⟩
  rw [← hxs, ← hst]
  have HBX := Lib.hid (And.intro hB (And.intro hxs hst))
  obtain ⟨res, hres⟩ : ∃ res, res = (if st = (n, false) then Value.tuple #[.agg (chgCells false xs .zero (.slice none 0 0) (.slice none 0 0) (.slice none 0 0)), .int .i64 0] else Value.tuple #[.agg zChg, .int .i64 70]) := ⟨_, rfl⟩
  rw [← hres]
  have HRES := Lib.hid hres
  clear hres
  clear hB hxs hst
  go_enter Try.func18, Try.ntmps18
  go_upto_region 4 with fail
  refine wp_region_lit ?_
  obtain ⟨W1, hW1⟩ : ∃ W1 : World, W1 = (w.alloc (.cells zChg 38)).alloc (.cells #[.slice (some ⟨b, o, none⟩) n c, .bool true, .int .i64 1, .bool false] 73) := ⟨_, rfl⟩
  show wpList _ _ _ _ _ ((w.alloc (.cells zChg 38)).alloc (.cells #[.slice (some ⟨b, o, none⟩) n c, .bool true, .int .i64 1, .bool false] 73))
  rw [← hW1]
  have hm1 : Mod No w W1 := by rw [hW1]; exact ((Mod.refl _ _).alloc _).alloc _
  have hs1 : W1.heap.size = w.heap.size + 2 := by rw [hW1]; simp
  have hz1 : W1.heap[w.heap.size]? = some (.cells zChg 38 (0, 0)) := by rw [hW1]; exact at20 w _ _
  have hC1 : W1.heap[w.heap.size + 1]? = some (rdObj (some ⟨b, o, none⟩) n c 1 false) := by rw [hW1]; exact at21 w _ _
  have c1 : W1.cell? ⟨b, o, none⟩ = some (.int .u8 0) := hm1.cell c0 id
  have p2 : ¬ n = 0 := by omega
  clear hW1
  refine step_val (v := .slice (some ⟨b, o, none⟩) n c) (want_none rfl) rfl ?_
  refine step_val (v := .pointer (some ⟨b, o, none⟩)) (w' := W1) (want_none rfl) (by
    show ((do pure (Next.value (← Instr.indexAt 34 (.slice (some ⟨b, o, none⟩) n c) (.int .i64 0)))) : Sem Next).run Try.prog W1 = _
    go_simp) ?_
  refine step_val (v := .int .u8 0) (w' := W1) (want_none rfl) (by
    show ((do pure (Next.value (← Instr.loadAt 5 (.pointer (some ⟨b, o, none⟩))))) : Sem Next).run Try.prog W1 = _
    go_simp) ?_
  refine step_val (v := .bool false) (w' := W1) (want_none rfl) rfl ?_
  simp only [Act.put, List.setIfInBounds_toArray, List.set_cons_zero, List.set_cons_succ]
  refine step_val (v := .agg zChg) (w' := W1) (want_none rfl) (build1_run false _ _ (by rfl)) ?_
  refine step_val (v := .pointer (some ⟨W1.heap.size, 0, none⟩)) (w' := W1.alloc (.cells zChg 38)) (want_none rfl) (alloc_op _ _) ?_
  simp only [Act.put, List.setIfInBounds_toArray, List.set_cons_zero, List.set_cons_succ]
  refine step_none (w' := (W1.alloc (.cells zChg 38)).setRow W1.heap.size zChg) (want_none rfl) (run_store_op (by rfl) (by rfl) (by rfl) (store_chg (at10 W1 _) rfl zSize zOne)) ?_
  refine wpList_nil ?_
  simp only [Act.put]
  obtain ⟨x5, hx5⟩ : ∃ x5, x5 = W1.heap.size := ⟨_, rfl⟩
  obtain ⟨W3, hW3⟩ : ∃ W3 : World, W3 = (W1.alloc (.cells zChg 38)).setRow x5 zChg := ⟨_, rfl⟩
  rw [← hx5, ← hW3]
  have hm3 : Mod No W1 W3 := by rw [hW3]; exact ((Mod.refl No W1).alloc _).trans' (setRow_mod _) (fun i hi hg => by omega)
  have hz3 : W3.heap[x5]? = some (.cells zChg 38 (0, 0)) := by rw [hW3, hx5]; exact setRow_heap _ _ _ _ _ _ (at10 W1 _)
  have d0 : W3.cell? ⟨x5, 0, none⟩ = some (.bool false) := (blk_cell hz3 0).trans rfl
  obtain ⟨hB, hxs, hst⟩ := HBX.out
  have hBn : B.length = n := by rw [hB, List.length_cons, HN.out]
  have hrow3 := (HR.out.mono (S' := fun i => S i ∧ i < w.heap.size) (fun i hi hs => ⟨hs, hi⟩)).keeps ((hm1.trans hm3).keeps (fun _ _ _ f => f))
  rw [← hB] at hrow3
  have hNM := name_rd B (by rw [hBn]; exact hm3.obj hC1 id) hrow3 (by omega) (by omega) (by omega) (fun f => by omega) [] (by simp) (T := x5) (o := 1) hz3 rfl (by omega)
  rw [← hxs, ← hst] at hNM
  have HNM := Lib.hid hNM
  have H3 := Lib.hid (And.intro (hm1.trans hm3) (And.intro (hm3.obj hz1 id) hBn))
  have hx1 : w.heap.size < x5 := by omega
  have hx2 : w.heap.size + 1 < x5 := by omega
  clear hm1 hz1 hC1 c1 hm3 hz3 hB hrow3 hNM hxs hst hW3 hx5 hs1 hBn HR HN c0 p0 p1 HBX p2
  clear W1
  go_upto_region 9 with (first | (go_at_call 36; refine HNM.out.mono ?_; rintro e w4 ⟨rfl, hC4, hX4, hm4⟩; have HE := Lib.hid (ended_ok hC4); have H4 := Lib.hid (And.intro hX4 hm4); clear hC4 hX4 hm4) | fail)
  obtain ⟨eb, heb⟩ : ∃ eb, eb = (!st.2 && decide (st.1 = B.length)) := ⟨_, rfl⟩
  rw [← heb] at HE
  have hif : (st = (n, false)) = (eb = true) := by
    rw [heb, H3.out.2.2]
    obtain ⟨s1, s2⟩ := st
    cases s2 <;> simp
  have hX4 := H4.out.1
  rw [chg_set] at hX4
  have ho1 : (chgCells false xs .zero (.slice none 0 0) (.slice none 0 0) (.slice none 0 0)).all (·.oneCell') = true := by simp [chgCells, Ten.cells, Value.oneCell']
  obtain ⟨CX, hCX⟩ : ∃ CX, CX = chgCells false xs .zero (.slice none 0 0) (.slice none 0 0) (.slice none 0 0) := ⟨_, rfl⟩
  have hCs : CX.size = 35 := by rw [hCX, chg_size]
  rw [← hCX] at hX4 ho1
  have hz4 := H4.out.2.obj H3.out.2.1 (by intro f; rcases f with f | f <;> omega)
  have hmall : Mod No w w4 := H3.out.1.trans' H4.out.2 (fun i hi hg => by rcases hg with h | h <;> omega)
  have HIF := Lib.hid hif
  have HZ := Lib.hid (And.intro hX4 (And.intro hz4 hmall))
  have HCX := Lib.hid (And.intro hCX (And.intro hCs ho1))
  clear hif heb hX4 hz4 hmall hCX hCs ho1
  cases eb
  · go_upto_region 10 with (first | (go_at_call 37; refine HE.out.mono ?_; rintro e w5 ⟨rfl, q5, rfl⟩) | fail)
    refine wp_region_lit ?_
    refine step_val (v := .agg zChg) (want_none rfl) (build_run _ _) ?_
    simp only [Act.put, List.setIfInBounds_toArray, List.set_cons_zero, List.set_cons_succ]
    refine step_none (w' := (w4.drewN q5).setRow w.heap.size zChg) (want_none rfl) (run_store_op (by rfl) (by rfl) (by rfl) (store_chg (old := zChg) (HZ.out.2.1) rfl zSize zOne)) ?_
    refine step_val (v := .int .i64 70) (want_none rfl) rfl ?_
    refine wpList_nil ?_
    simp only [Act.put, List.setIfInBounds_toArray, List.set_cons_zero, List.set_cons_succ]
    go_wp2
    refine bodyPost_ret (results_cell_tmp rfl _ _ w.heap.size 38 zChg (0, 0) _ rfl (setRow_heap _ _ _ _ _ _ HZ.out.2.1) Try.underlying38 rfl (by rw [chgSize, zSize])) rfl ?_
    refine ⟨?_, (HZ.out.2.2.drewN q5).trans' (setRow_mod _) (fun i hi hg => by omega)⟩
    rw [HRES.out, if_neg (by rw [HIF.out]; decide)]
    rfl
  · go_upto_region 11 with (first | (go_at_call 37; refine HE.out.mono ?_; rintro e w5 ⟨rfl, q5, rfl⟩) | fail)
    refine wp_region_lit ?_
    refine step_val (v := .agg CX) (w' := w4.drewN q5) (want_none rfl) (load_op (by rfl) (load_chg HZ.out.1 HCX.out.2.1)) ?_
    simp only [Act.put, List.setIfInBounds_toArray, List.set_cons_zero, List.set_cons_succ]
    refine step_none (w' := (w4.drewN q5).setRow w.heap.size CX) (want_none rfl) (run_store_op (by rfl) (by rfl) (by rfl) (store_chg (old := zChg) (HZ.out.2.1) rfl HCX.out.2.1 HCX.out.2.2)) ?_
    refine step_val (v := .int .i64 0) (want_none rfl) rfl ?_
    refine wpList_nil ?_
    simp only [Act.put, List.setIfInBounds_toArray, List.set_cons_zero, List.set_cons_succ]
    go_wp2
    refine bodyPost_ret (results_cell_tmp rfl _ _ w.heap.size 38 CX (0, 0) _ rfl (setRow_heap _ _ _ _ _ _ HZ.out.2.1) Try.underlying38 rfl (by rw [chgSize, HCX.out.2.1])) rfl ?_
    refine ⟨?_, (HZ.out.2.2.drewN q5).trans' (setRow_mod _) (fun i hi hg => by omega)⟩
    rw [HRES.out, if_pos (Eq.mpr HIF.out trivial), ← HCX.out.1]
    rfl

end Go.Proofs.Ytcnemhhbihhcfaa
