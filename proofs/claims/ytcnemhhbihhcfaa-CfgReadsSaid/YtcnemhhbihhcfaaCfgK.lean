/-
  Package cfg, eleventh part: bytes held against one another; the chapter's example ('known').
-/
import Derived.Test.YtcnemhhbihhcfaaCfgJ
import Derived.Lib.BufferRead
namespace Go.Proofs.Ytcnemhhbihhcfaa
open Go.RowKit
set_option linter.unusedVariables false

theorem conv_row {S : Nat → Prop} {w : World} {A : Option Addr} {l : List UInt8} (c : Nat) (h : RowAt S w A (bcells l)) : (convert 34 9 (.slice A l.length c)).run Try.prog w = .ok (.string (str l)) w := by
  cases A with
  | none =>
    have hl : l = [] := by
      rcases h with h | ⟨b, o, e, _⟩
      · have := congrArg List.length h
        rw [bcells_length] at this
        exact List.eq_nil_of_length_eq_zero (by simpa using this)
      · cases e
    subst hl
    exact Lib.run_convert_nil_bytes w 34 9 5 c Try.underlying34 Try.underlying5 Try.underlying9
  | some ad =>
    refine run_convert_bytes_back w 34 9 5 ad c l Try.underlying34 Try.underlying5 Try.underlying9 (fun j hj => ?_)
    obtain ⟨b, o, e, _, _, hc⟩ := h.open (by intro e; have := congrArg List.length e; rw [bcells_length] at this; simp at this; subst this; simp at hj)
    cases e
    rw [Addr.add_lit]
    exact hc j _ (by simp [bcells, List.getElem?_eq_getElem hj])
set_option maxRecDepth 100000 in
theorem bytes_ok {S S' : Nat → Prop} {w : World} (A B : Option Addr) (c d : Nat) (xs ys : List UInt8) (hx : RowAt S w A (bcells xs)) (hy : RowAt S' w B (bcells ys)) :
    Calls Try.prog 20 #[.slice A xs.length c, .slice B ys.length d] w fun e w' => e = .returned (.bool (decide (xs = ys))) ∧ w' = w := by
  have r1 := conv_row c hx
  have r2 := conv_row d hy
  have hb := str_beq xs ys
  have hl1 : (xs.length : Nat) = xs.length := rfl
  clear hx hy
  generalize xs.length = n at r1 ⊢
  generalize ys.length = m at r2 ⊢
  go_enter Try.func20, Try.ntmps20
  go_wp2
  go_ret
  exact ⟨by rw [← hb]; rfl, rfl⟩

/-! ### known -/
def exA : List UInt8 := [0, 1, 97]
theorem exA_name : (0 :: nameB [97]) = exA := rfl
theorem exA_read : rname exA (1, false) = ([97], (3, false)) := by decide +kernel
theorem chg_at0 (b : Bool) (xs : List UInt8) (t : Ten) (vp vs vt : Value) : (chgCells b xs t vp vs vt)[0]? = some (.bool b) := by simp [chgCells, Ten.cells]
theorem chg_at1 (b : Bool) (xs : List UInt8) (t : Ten) (vp vs vt : Value) : (chgCells b xs t vp vs vt)[1]? = some (.string (str xs)) := by simp [chgCells, Ten.cells]
set_option maxRecDepth 100000 in
theorem build2_run (ρ : Operand → Value) (W : World) {x : Operand} (hx : ρ x = .string (str [97])) {dst : Option Tmp} {ty : TypeId} {pos : String} {after : Array Edge} {g : Option (Nat × Bool)} : (execOp ρ { dst := dst, op := .build 38 #[(1, x)], type := ty, pos := pos, after := after, guard := g }).run Try.prog W = .ok (.value (.agg (chgCells false [97] .zero (.slice none 0 0) (.slice none 0 0) (.slice none 0 0)))) W := by
  have hb : (Instr.build 38 #[(1, .string (str [97]))]).run Try.prog W = .ok (.agg (chgCells false [97] .zero (.slice none 0 0) (.slice none 0 0) (.slice none 0 0))) W := by kernel_rfl
  show ((do pure (Next.value (← Instr.build 38 (#[(1, x)].map fun (i, x) => (i, ρ x)))) : Sem Next)).run Try.prog W = _
  have hm : (#[((1 : Nat), x)].map fun (i, x) => (i, ρ x)) = #[(1, .string (str [97]))] := by simp [hx]
  rw [hm]
  simp only [Sem.run_bind, hb, Result.andThen_ok, Sem.run_pure]
theorem call_op {P : Program} {ρ : Operand → Value} {W : World} {k : Nat} {xs : Array Operand} {vs : Array Value} {ats : Array TypeId} (hf : ∀ k, ρ (.func k) = .func (.func k) #[] #[]) (hx : xs.map ρ = vs) (hen : ∀ (a : Array Value) (W : World), (callFunc k a).run P W = .ok (.enter k a) W) {dst : Option Tmp} {ty : TypeId} {pos : String} {after : Array Edge} {g : Option (Nat × Bool)} :
    (execOp ρ { dst := dst, op := .call { callee := .value (.func k), args := xs, argTypes := ats }, type := ty, pos := pos, after := after, guard := g }).run P W = .ok (.enter k vs) W := by
  simp only [execOp, resolve, hf, hx, Deferred.ofValue, Sem.run_bind, Sem.run_pure, Result.andThen_ok, invoke]
  simp [hen]

def tV (n : Nat) : Ten := { Ten.zero with vni := n }
theorem tenV_tV (S : Nat → Prop) (w : World) (n : Nat) : TenV S w (tV n) (.agg ((tV n).cells (.slice none 0 0) (.slice none 0 0) (.slice none 0 0))) :=
  ⟨none, 0, none, 0, none, 0, rfl, .nil _ _ _, .nil _ _ _, .nil _ _ _⟩
theorem same33 (W : World) : Calls Try.prog 11 #[.agg ((tV 3).cells (.slice none 0 0) (.slice none 0 0) (.slice none 0 0)), .agg ((tV 3).cells (.slice none 0 0) (.slice none 0 0) (.slice none 0 0))] W fun e w' => e = .returned (.bool true) ∧ Mod No W w' := by
  have h := same_ok (S := No) (S' := No) (w := W) (tV 3) (tV 3) _ _ (tenV_tV _ _ 3) (tenV_tV _ _ 3) (by decide) (by decide) (by decide)
  rw [decide_eq_true rfl] at h
  exact h
theorem same34 (W : World) : Calls Try.prog 11 #[.agg ((tV 3).cells (.slice none 0 0) (.slice none 0 0) (.slice none 0 0)), .agg ((tV 4).cells (.slice none 0 0) (.slice none 0 0) (.slice none 0 0))] W fun e w' => e = .returned (.bool false) ∧ Mod No W w' := by
  have h := same_ok (S := No) (S' := No) (w := W) (tV 3) (tV 4) _ _ (tenV_tV _ _ 3) (tenV_tV _ _ 4) (by decide) (by decide) (by decide)
  rw [decide_eq_false (by simp [tV])] at h
  exact h

set_option maxRecDepth 100000 in
theorem known_ok (w : World) : Calls Try.prog 9 #[] w fun e w' => e = .returned (.bool true) ∧ Mod No w w' := by
  go_enter Try.func9, Try.ntmps9
  go_upto_region 1 with fail
  refine wp_region_lit ?_
  refine step_val (want_none rfl) (build2_run _ _ (by rfl)) ?_
  simp only [Act.put, List.setIfInBounds_toArray, List.set_cons_zero, List.set_cons_succ]
  obtain ⟨CA, hCA⟩ : ∃ CA, CA = chgCells false [97] .zero (.slice none 0 0) (.slice none 0 0) (.slice none 0 0) := ⟨_, rfl⟩
  rw [← hCA]
  have HC := change_name_ok (w := w) CA (by rw [hCA, chg_size]) [97] (by decide) (by rw [hCA, chg_at0]) (by rw [hCA, chg_at1])
  refine step_calls (want_none rfl) (call_op (fun _ => rfl) (by simp only [List.map_toArray, List.map_cons, List.map_nil]; rfl) (fun a W => by go_simp)) HC ?_
  rintro v w1 ⟨hown, hm1⟩
  simp only [Act.put, List.setIfInBounds_toArray, List.set_cons_zero, List.set_cons_succ]
  refine step_val (v := v) (w' := w1) (want_none rfl) rfl ?_
  refine wpList_nil ?_
  simp only [Act.put, List.setIfInBounds_toArray, List.set_cons_zero, List.set_cons_succ]
  obtain ⟨A, c, rfl, hcap, hrow⟩ := RowAt.of_owns hown
  rw [exA_name] at hrow hcap
  have hlen : (0 :: nameB [97]).length = 3 := rfl
  rw [hlen]
  clear HC hCA hlen hown
  go_upto_region 2 with fail
  refine wp_region_lit ?_
  refine step_val (v := .slice A 3 c) (w' := w1) (want_none rfl) rfl ?_
  simp only [Act.put, List.setIfInBounds_toArray, List.set_cons_zero, List.set_cons_succ]
  have HO := openChange_name (w := w1) A 3 c [1, 97] hrow rfl hcap (by decide)
  rw [show rname (0 :: [1, 97]) (1, false) = ([97], (3, false)) from exA_read, if_pos rfl] at HO
  refine step_calls (R := fun v w' => v = .tuple #[.agg (chgCells false [97] .zero (.slice none 0 0) (.slice none 0 0) (.slice none 0 0)), .int .i64 0] ∧ Mod No w1 w') (want_none rfl) (call_op (fun _ => rfl) (by simp only [List.map_toArray, List.map_cons, List.map_nil]; rfl) (fun a W => by go_simp)) (HO.mono fun e w' ⟨h1, h2⟩ => ⟨_, h1, rfl, h2⟩) ?_
  rintro v w2 ⟨rfl, hm2⟩
  obtain ⟨CX, hCX⟩ : ∃ CX, CX = chgCells false [97] .zero (.slice none 0 0) (.slice none 0 0) (.slice none 0 0) := ⟨_, rfl⟩
  rw [← hCX]
  have hX0 : CX[0]? = some (Value.bool false) := by rw [hCX, chg_at0]
  have hX1 : CX[1]? = some (Value.string (str [97])) := by rw [hCX, chg_at1]
  have hXs : CX.size = 35 := by rw [hCX, chg_size]
  have hXo : CX.all (·.oneCell') = true := by rw [hCX]; simp [chgCells, Ten.cells, Value.oneCell', Ten.zero]
  clear hCX
  simp only [Act.put, List.setIfInBounds_toArray, List.set_cons_zero, List.set_cons_succ]
  refine step_val (v := .tuple #[.agg CX, .int .i64 0]) (w' := w2) (want_none rfl) rfl ?_
  simp only [Act.put, List.setIfInBounds_toArray, List.set_cons_zero, List.set_cons_succ]
  refine step_val (v := .agg CX) (w' := w2) (want_none rfl) rfl ?_
  refine step_val (v := .int .i64 0) (w' := w2) (want_none rfl) rfl ?_
  refine step_val (v := .pointer (some ⟨w2.heap.size, 0, none⟩)) (w' := w2.alloc (.cells zChg 38)) (want_none rfl) (alloc_op _ _) ?_
  simp only [Act.put, List.setIfInBounds_toArray, List.set_cons_zero, List.set_cons_succ]
  obtain ⟨x2, hx2⟩ : ∃ x2, x2 = w2.heap.size := ⟨_, rfl⟩
  obtain ⟨w3, hw3⟩ : ∃ w3 : World, w3 = (w2.alloc (.cells zChg 38)).setRow x2 CX := ⟨_, rfl⟩
  refine step_none (w' := w3) (want_none rfl) (run_store_op (by rfl) (by rfl) (by rfl) (by rw [hw3, ← hx2]; exact store_chg (by rw [hx2]; exact at10 w2 _) zSize hXs hXo)) ?_
  refine step_val (v := .int .i64 0) (w' := w3) (want_none rfl) rfl ?_
  refine wpList_nil ?_
  simp only [Act.put, List.setIfInBounds_toArray, List.set_cons_zero, List.set_cons_succ]
  rw [← hx2]
  have hm3 : Mod No w2 w3 := by rw [hw3]; exact ((Mod.refl No w2).alloc _).trans' (setRow_mod _) (fun i hi hg => by omega)
  have hz3 : w3.heap[x2]? = some (.cells CX 38 (0, 0)) := by rw [hw3]; exact setRow_heap _ _ _ _ _ _ (by rw [hx2]; exact at10 w2 _)
  have hrow3 : RowAt (fun _ => True) w3 A (bcells exA) := ((hrow.mono (S' := fun b => w.heap.size ≤ b ∧ b < w1.heap.size) (fun b hb hs => ⟨hs, hb⟩)).keeps ((hm2.trans hm3).keeps (fun _ _ _ f => f))).mono (fun _ _ _ => trivial)
  have hmw3 : Mod No w w3 := hm1.trans (hm2.trans hm3)
  have H3 := Lib.hid (And.intro hmw3 (And.intro hz3 hrow3))
  clear hm3 hz3 hrow3 hmw3 hw3 hx2 HO hrow hm1 hm2 hXs hXo hcap
  go_upto_region 3 with fail
  refine wp_region_lit ?_
  obtain ⟨w4, hw4⟩ : ∃ w4 : World, w4 = w3.alloc (.cells #[.int .u8 9] 5) := ⟨_, rfl⟩
  refine step_val (v := .slice (some ⟨w3.heap.size, 0, none⟩) 1 1) (w' := w4) (want_none rfl) (by rw [hw4]; go_simp) ?_
  simp only [Act.put, List.setIfInBounds_toArray, List.set_cons_zero, List.set_cons_succ]
  have hm4 : Mod No w3 w4 := by rw [hw4]; exact (Mod.refl _ _).alloc _
  have hr4 : RowAt (fun _ => True) w4 (some ⟨w3.heap.size, 0, none⟩) (bcells [9]) := .inr ⟨_, 0, rfl, trivial, fun j v hj => by rw [Nat.zero_add, hw4, blk_cell (at10 w3 _) j]; simpa [bcells] using hj⟩
  have HB := openChange_bad (w := w4) (some ⟨w3.heap.size, 0, none⟩) 1 1 9 [] hr4 rfl (by decide)
  refine step_calls (R := fun v w' => v = .tuple #[.agg zChg, .int .i64 70] ∧ Mod No w4 w') (want_none rfl) (call_op (fun _ => rfl) (by simp only [List.map_toArray, List.map_cons, List.map_nil]; rfl) (fun a W => by go_simp)) (HB.mono fun e w' ⟨h1, h2⟩ => ⟨_, h1, rfl, h2⟩) ?_
  rintro v w5 ⟨rfl, hm5⟩
  have hZs := zSize
  have hZo := zOne
  obtain ⟨Z, hZ⟩ : ∃ Z, Z = zChg := ⟨_, rfl⟩
  have ha := fun ρ W dst ty pos after g => alloc_op ρ W (dst := dst) (ty := ty) (pos := pos) (after := after) (g := g)
  rw [← hZ] at hZs hZo ha ⊢
  simp only [Act.put, List.setIfInBounds_toArray, List.set_cons_zero, List.set_cons_succ]
  refine step_val (v := .tuple #[.agg Z, .int .i64 70]) (w' := w5) (want_none rfl) rfl ?_
  simp only [Act.put, List.setIfInBounds_toArray, List.set_cons_zero, List.set_cons_succ]
  refine step_val (v := .agg Z) (w' := w5) (want_none rfl) rfl ?_
  refine step_val (v := .int .i64 70) (w' := w5) (want_none rfl) rfl ?_
  refine step_val (v := .pointer (some ⟨w5.heap.size, 0, none⟩)) (w' := w5.alloc (.cells Z 38)) (want_none rfl) (ha ..) ?_
  simp only [Act.put, List.setIfInBounds_toArray, List.set_cons_zero, List.set_cons_succ]
  obtain ⟨x4, hx4⟩ : ∃ x4, x4 = w5.heap.size := ⟨_, rfl⟩
  obtain ⟨w6, hw6⟩ : ∃ w6 : World, w6 = (w5.alloc (.cells Z 38)).setRow x4 Z := ⟨_, rfl⟩
  refine step_none (w' := w6) (want_none rfl) (run_store_op (by rfl) (by rfl) (by rfl) (by rw [hw6, ← hx4]; exact store_chg (by rw [hx4]; exact at10 w5 _) hZs hZs hZo)) ?_
  refine step_val (v := .int .i64 70) (w' := w6) (want_none rfl) rfl ?_
  refine wpList_nil ?_
  simp only [Act.put, List.setIfInBounds_toArray, List.set_cons_zero, List.set_cons_succ]
  rw [← hx4]
  have hm6 : Mod No w5 w6 := by rw [hw6]; exact ((Mod.refl No w5).alloc _).trans' (setRow_mod _) (fun i hi hg => by omega)
  have hall : Mod No w3 w6 := hm4.trans (hm5.trans hm6)
  have h6r := H3.out.2.2.mono (S' := fun b => b < w3.heap.size) (fun b hb _ => hb)
  have hrow6 : RowAt (fun _ => True) w6 A (bcells exA) := (h6r.keeps (hall.keeps (fun _ _ _ f => f))).mono (fun _ _ _ => trivial)
  have hz6 := hall.obj H3.out.2.1 id
  have hc0 : w6.cell? ⟨x2, 0, none⟩ = some (.bool false) := by rw [blk_cell hz6]; exact hX0
  have hc1 : w6.cell? ⟨x2, 1, none⟩ = some (.string { data := #[97] }) := by rw [blk_cell hz6]; exact hX1
  have hxl : x2 < w6.heap.size := lt_of_block hz6
  have H6 := Lib.hid (And.intro (H3.out.1.trans hall) hrow6)
  clear hm4 hr4 HB hm5 hZs hZo hZ ha hw6 hm6 hall h6r hrow6 hz6 hX0 hX1 hw4 hx4 H3
  clear w5 w4
  go_upto_region 4 with fail
  have hBy : Calls Try.prog 20 #[.slice A 3 c, .slice (some ⟨w6.heap.size, 0, none⟩) 3 3] (w6.alloc (.cells #[.int .u8 0, .int .u8 1, .int .u8 97] 5)) fun e w' => e = .returned (.bool true) ∧ w' = w6.alloc (.cells #[.int .u8 0, .int .u8 1, .int .u8 97] 5) :=
    bytes_ok (S := fun b => b < w6.heap.size) (S' := fun _ => True) A (some ⟨w6.heap.size, 0, none⟩) c 3 exA exA ((H6.out.2.mono (fun b hb _ => hb)).keeps (((Mod.refl No w6).alloc _).keeps (fun _ _ _ f => f))) (.inr ⟨_, 0, rfl, trivial, fun j v hj => by rw [Nat.zero_add, blk_cell (at10 w6 _) j]; simpa [bcells, exA] using hj⟩)
  have HBy := Lib.hid hBy
  have H33 := Lib.hid same33
  have H34 := Lib.hid same34
  clear hBy
  go_wp2_with (first | (go_at_call 20; refine HBy.out.mono ?_; rintro e w7 ⟨rfl, rfl⟩) | (go_at_call 11; have gd := w8; clear gd; refine (H34.out _).mono ?_; rintro e w9 ⟨rfl, hm9⟩; have H9 := Lib.hid hm9; clear hm9) | (go_at_call 11; refine (H33.out _).mono ?_; rintro e w8 ⟨rfl, hm8⟩; have H8 := Lib.hid hm8; clear hm8) | fail)
  go_ret
  exact ⟨rfl, H6.out.1.trans (((Mod.refl No w6).alloc _).trans (H8.out.trans H9.out))⟩

end Go.Proofs.Ytcnemhhbihhcfaa
