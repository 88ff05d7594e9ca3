/-
  The law CfgCuts, walked.
-/
import Derived.Test.YtcnemhhbihhcfaaLawF
namespace Go.Proofs.Ytcnemhhbihhcfaa
open Go.RowKit
set_option linter.unusedVariables false

def chgMake (v u : Value) : Sem Value := Instr.build 38 #[(0, v), (2, u)]
@[go_sem ↓] theorem chg_make_fold (ρ : Operand → Value) (x y : Operand) (dst : Option Tmp) (ty : TypeId) (pos : String) (after : Array Edge) (g : Option (Nat × Bool)) :
    execOp ρ { dst := dst, op := .build 38 #[(0, x), (2, y)], type := ty, pos := pos, after := after, guard := g } = (do pure (Next.value (← chgMake (ρ x) (ρ y))) : Sem Next) := by
  show (do pure (Next.value (← Instr.build 38 (#[(0, x), (2, y)].map fun (i, x) => (i, ρ x)))) : Sem Next) = _
  have hm : (#[((0 : Nat), x), (2, y)].map fun (i, x) => (i, ρ x)) = #[(0, ρ x), (2, ρ y)] := by simp
  rw [hm]
  rfl
theorem chgMake_cells (l : List Value) (h : l.length = 33) : ∀ W, (chgMake (.bool true) (.agg l.toArray)).run Try.prog W = .ok (.agg (#[.bool true, .string (str [])] ++ l.toArray)) W := by
  intro W
  obtain ⟨c0, c1, c2, c3, c4, c5, c6, c7, c8, c9, c10, c11, c12, c13, c14, c15, c16, c17, c18, c19, c20, c21, c22, c23, c24, c25, c26, c27, c28, c29, c30, c31, c32, rfl⟩ := list33' l h
  kernel_rfl
theorem chgMake_run (x : TV) : ∀ W, (chgMake (.bool true) (.agg x.cells.toArray)).run Try.prog W = .ok (.agg (cChg true [] x)) W := chgMake_cells x.cells rfl

theorem ocg_cut (t : Ten) (hok : t.Ok) (hf : t.Fits) (j : Nat) (hj : j < (1 :: wten t).length) : (ocg ((1 :: wten t).take j)).2.2.2 = 70 := by
  cases j with
  | zero => rfl
  | succ j =>
    rw [List.take_succ_cons]
    have h := rten_cut t hok hf [1] j (by simp at hj; omega)
    simp only [List.cons_append, List.nil_append, List.length_singleton] at h
    have hne : ¬ (rten (1 :: (wten t).take j) (1, false)).2 = (((wten t).take j).length + 1, false) := fun e => by rw [e] at h; simp at h
    simp only [ocg]
    rw [if_neg (by decide), if_pos trivial, if_neg hne]
theorem otn_cut (t : Ten) (hok : t.Ok) (hf : t.Fits) (m : Nat) (hm : m < (wten t).length) : (otn ((wten t).take m)).2.2 = 70 := by
  have h := rten_cut t hok hf [] m hm
  simp only [List.nil_append, List.length_nil] at h
  unfold otn
  rw [if_pos h]

def OtP (w : World) (e : Ending) (w' : World) : Prop := ∃ (CA : Array Value) (z : Nat), CA.size = 33 ∧ CA.all (·.oneCell') = true ∧ e = .returned (.tuple #[.agg CA, .int .i64 z, .int .i64 70]) ∧ Mod No w w'
def OcP (w : World) (e : Ending) (w' : World) : Prop := ∃ (CA : Array Value), CA.size = 35 ∧ CA.all (·.oneCell') = true ∧ e = .returned (.tuple #[.agg CA, .int .i64 70]) ∧ Mod No w w'
theorem chgStore_new (W : World) (CA : Array Value) (hc : CA.size = 35) (h1 : CA.all (·.oneCell') = true) : (chgStore (.pointer (some ⟨W.heap.size, 0, none⟩)) (.agg CA)).run Try.prog (W.alloc (.cells zChg 38)) = .ok () (W.alloc (.cells CA 38)) := by
  rw [← setRow_alloc W zChg CA]
  exact chgStore_row (at10 W _) zSize hc h1

set_option maxRecDepth 100000 in
set_option maxHeartbeats 4000000 in
theorem cfgCuts_walk {w : World} (x : TV) (hx : x.Open w) (k : Int) :
    Calls Try.prog 4 #[.agg x.cells.toArray, .int .i64 k] w fun e w' => e = .returned (.bool true) ∧ Mod No w w' := by
  obtain ⟨TA, hTA⟩ : ∃ TA, TA = x.cells.toArray := ⟨_, rfl⟩
  have bA := box_ten TA (by rw [hTA]; rfl)
  obtain ⟨w0, hw0⟩ : ∃ w0, w0 = w.alloc (.cells TA 30) := ⟨_, rfl⟩
  have hm0 : Mod No w w0 := by rw [hw0]; exact (Mod.refl _ _).alloc _
  have hb0 : w0.heap[w.heap.size]? = some (.cells TA 30 (0, 0)) := by rw [hw0]; exact at10 w _
  have hLD : ∀ W, Mod No w0 W → (tenLoad (.pointer (some ⟨w.heap.size, 0, none⟩))).run Try.prog W = .ok (.agg TA) W := fun W hW => tenLoad_run (hW.obj hb0 id) (by rw [hTA]; rfl)
  have hkp : ∀ W, Mod No w0 W → Keeps (fun _ => True) w W := fun W hW => (hm0.trans hW).keeps (fun _ _ _ f => f)
  obtain ⟨r1, hr1⟩ : ∃ r1, r1 = light x.t := ⟨_, rfl⟩
  have hL : ∀ W, Mod No w0 W → Calls Try.prog 10 #[.agg TA] W fun e w' => e = .returned (.bool r1) ∧ Mod No W w' := fun W hW => by
    rw [hr1, hTA]; exact light_ok x.t _ (hx.val.keeps (hkp W hW))
  have hFi : ∀ W, Mod No w0 W → Calls Try.prog 13 #[.agg TA] W (FitsP x.t W) := fun W hW => by
    rw [hTA]; exact fits_ok x (hx.rows.keeps (hkp W hW))
  obtain ⟨CB, hCB⟩ : ∃ CB, CB = cChg true [] x := ⟨_, rfl⟩
  have hmk : ∀ W, (chgMake (.bool true) (.agg TA)).run Try.prog W = .ok (.agg CB) W := by rw [hTA, hCB]; exact chgMake_run x
  obtain ⟨X, hX⟩ : ∃ X, X = wten x.t := ⟨_, rfl⟩
  have hXl : X.length ≤ 40000 := by rw [hX]; exact wten_len _
  have hXn : X ≠ [] := by rw [hX]; exact wten_ne _
  have hopen : ∀ W, Mod No w0 W → x.Rows (· < W.heap.size) W := fun W hW => TV.Open.here ⟨hx.rows.keeps (hkp W hW), hx.wf⟩
  have hT : r1 = true → ∀ W, Mod No w0 W → Calls Try.prog 14 #[.agg TA] W fun e w' => ∃ v, e = .returned v ∧ OwnB w' W.heap.size v X ∧ Mod No W w' := fun e1 W hW => by
    rw [hX, hTA]; exact cfgTenant_ok x (hopen W hW) hx.wf.ok (by have := (light_of (hr1.symm.trans e1)).1; omega)
  have hCh : r1 = true → ∀ W, Mod No w0 W → Calls Try.prog 15 #[.agg CB] W fun e w' => ∃ v, e = .returned v ∧ OwnB w' W.heap.size v (1 :: X) ∧ Mod No W w' := fun e1 W hW => by
    rw [hX, hCB]; exact cfgChange_ok true [] x (hopen W hW) hx.wf.ok (by have := (light_of (hr1.symm.trans e1)).1; omega) (by simp)
  have hOT : x.t.Fits → ∀ (W : World) (g c m : Nat), m < X.length → X.length ≤ c → (∀ j u, (bcells X)[j]? = some u → W.cell? ⟨g, j, none⟩ = some u) → Calls Try.prog 17 #[.slice (some ⟨g, 0, none⟩) m c] W (OtP W) := by
    intro hf W g c m hm hc hcell
    have hl : (X.take m).length = m := by rw [List.length_take]; omega
    have h := openTenant_ok (w := W) (A := some ⟨g, 0, none⟩) (c := c) (X.take m) (by
      by_cases h0 : m = 0
      · subst h0; exact .nil _ _ _
      · refine .inr ⟨g, 0, rfl, ?_, fun j u hj => ?_⟩
        · obtain ⟨u, hu⟩ : ∃ u, (bcells X)[0]? = some u := ⟨_, List.getElem?_eq_getElem (by rw [bcells_length]; omega)⟩
          exact World.block_lt_of_cell? _ _ (hcell 0 u hu)
        · rw [Nat.zero_add]
          refine hcell j u ?_
          have hjl := (List.getElem?_eq_some_iff.1 hj).1
          rw [bcells_length, hl] at hjl
          simp only [bcells, List.map_take] at hj ⊢
          rwa [List.getElem?_take_of_lt hjl] at hj) (by omega) (by omega)
    rw [hl] at h
    refine h.mono fun e w' ⟨y, e1, _, e3, e4⟩ => ⟨y.cells.toArray, (otn (X.take m)).2.1, rfl, TV.one e3, ?_, e4⟩
    have hcut := otn_cut x.t hx.wf.ok hf m (by rw [← hX]; exact hm)
    rw [← hX] at hcut
    rw [e1, hcut]
    rfl
  have hOC : x.t.Fits → ∀ (W : World) (g c m : Nat), m < X.length + 1 → X.length + 1 ≤ c → (∀ j u, (bcells (1 :: X))[j]? = some u → W.cell? ⟨g, j, none⟩ = some u) → Calls Try.prog 18 #[.slice (some ⟨g, 0, none⟩) m c] W (OcP W) := by
    intro hf W g c m hm hc hcell
    have hl : ((1 :: X).take m).length = m := by rw [List.length_take, List.length_cons]; omega
    have h := openChange_ok (w := W) (A := some ⟨g, 0, none⟩) (c := c) ((1 :: X).take m) (by
      by_cases h0 : m = 0
      · subst h0; exact .nil _ _ _
      · refine .inr ⟨g, 0, rfl, ?_, fun j u hj => ?_⟩
        · obtain ⟨u, hu⟩ : ∃ u, (bcells (1 :: X))[0]? = some u := ⟨_, List.getElem?_eq_getElem (by rw [bcells_length]; simp)⟩
          exact World.block_lt_of_cell? _ _ (hcell 0 u hu)
        · rw [Nat.zero_add]
          refine hcell j u ?_
          have hjl := (List.getElem?_eq_some_iff.1 hj).1
          rw [bcells_length, hl] at hjl
          simp only [bcells, List.map_take] at hj ⊢
          rwa [List.getElem?_take_of_lt hjl] at hj) (by omega) (by omega)
    rw [hl] at h
    refine h.mono fun e w' ⟨y, e1, _, e3, e4⟩ => ⟨cChg (ocg ((1 :: X).take m)).1 (ocg ((1 :: X).take m)).2.1 y, cChg_size _ _ _, cChg_one _ _ e3, ?_, e4⟩
    have hcut := ocg_cut x.t hx.wf.ok hf m (by rw [← hX]; simpa using hm)
    rw [← hX] at hcut
    rw [e1, hcut]
    rfl
  rw [← hTA]
  obtain ⟨n, hn⟩ : ∃ n, n = X.length := ⟨_, rfl⟩
  have hn0 : 0 < n := by rw [hn]; exact List.length_pos_iff.2 hXn
  have HLD := Lib.hid hLD
  have HL := Lib.hid hL
  have HFi := Lib.hid hFi
  have HT := Lib.hid hT
  have HCh := Lib.hid hCh
  have HOT := Lib.hid hOT
  have HOC := Lib.hid hOC
  have HM0 := Lib.hid hm0
  have HW0 := Lib.hid hw0
  have HN := Lib.hid (And.intro hn (And.intro hXl hXn))
  have HKN := Lib.hid known_ok
  have hal := tenAlloc_run
  have hac := chgAlloc_run
  clear hLD hL hFi hT hCh hOT hOC hm0 hw0 hX hXl hXn hn hTA hCB hr1 hb0 hkp hopen hx
  go_enter Try.func4, Try.ntmps4
  go_wp2_with fail
  rw [← HW0.out]
  refine (HKN.out w0).mono ?_
  rintro e w1 ⟨rfl, k1⟩
  have l1 := HLD.out w1 k1
  cases r1
  · go_wp2_with (first | (go_at_call 10; refine (HL.out _ k1).mono ?_; rintro e w2 ⟨rfl, m2⟩; have H2 := Lib.hid m2; clear m2) | fail)
    go_ret
    exact ⟨rfl, (HM0.out.trans k1).trans H2.out⟩
  go_wp2_with fail
  refine (HL.out _ k1).mono ?_
  rintro e w2 ⟨rfl, m2⟩
  have k2 : Mod No w0 w2 := Mod.trans k1 m2
  have l2 := HLD.out w2 k2
  go_wp2_with fail
  refine (HFi.out _ k2).mono ?_
  rintro e w3 ⟨b, rfl, hb, m3⟩
  have k3 : Mod No w0 w3 := Mod.trans k2 m3
  have l3 := HLD.out w3 k3
  clear l1 l2 k1 m2 m3
  cases b
  · clear hb
    go_wp2
    go_ret
    exact ⟨rfl, HM0.out.trans k3⟩
  have hf := hb rfl
  clear hb
  go_wp2_with fail
  refine (HT.out (by simp) _ k3).mono ?_
  rintro e w4 ⟨v4, rfl, o4, m4⟩
  obtain ⟨g4, c4, rfl, _, _, hc4, cell4⟩ := OwnB.at o4 HN.out.2.2
  have k4 : Mod No w0 w4 := Mod.trans k3 m4
  have l4 := HLD.out w4 k4
  clear l3 k2 k3 m4 o4
  rw [← HN.out.1] at hc4 ⊢
  go_wp2_with fail
  refine (HCh.out (by simp) _ k4).mono ?_
  rintro e w5 ⟨v5, rfl, o5, m5⟩
  obtain ⟨g5, c5, rfl, _, _, hc5, cell5⟩ := OwnB.at o5 (List.cons_ne_nil _ _)
  have k5 : Mod No w0 w5 := Mod.trans k4 m5
  have cell4' : ∀ j u, (bcells X)[j]? = some u → w5.cell? ⟨g4, j, none⟩ = some u := fun j u hj => m5.cell (cell4 j u hj) id
  rw [List.length_cons, ← HN.out.1] at hc5 ⊢
  have hn8 : n ≤ 40000 := by rw [HN.out.1]; exact HN.out.2.1
  have hP1 := place_ok w5 k (n + 1) (by omega) (by omega)
  have HC4 := Lib.hid (And.intro cell4' (And.intro cell5 (And.intro k5 (And.intro hc4 hc5))))
  have hcast : ((n + 1 : Nat) : Int) = (n : Int) + 1 := by omega
  rw [hcast] at hP1
  have HP1 := Lib.hid hP1
  clear l4 k4 m5 o5 cell4 cell4' cell5 k5 hP1 hcast hc4 hc5
  have pn : (1 : Int) ≤ n := by omega
  go_wp2_with fail
  refine HP1.out.mono ?_
  rintro e w6 ⟨j, rfl, hj, rfl⟩
  obtain ⟨m, hm⟩ : ∃ m, m = min j (n - 1) := ⟨_, rfl⟩
  have hmin : min (j : Int) ((n : Int) - 1) = (m : Int) := by omega
  have hmn : m < n := by omega
  have hsl := slice_head g4 n c4 m (by have := HC4.out.2.2.2.1; omega)
  have hOT := HOT.out hf w6 g4 c4 m (by rw [← HN.out.1]; exact hmn) (by rw [← HN.out.1]; exact HC4.out.2.2.2.1) HC4.out.1
  have HO := Lib.hid hOT
  have pj : (j : Int) < n + 1 := by omega
  clear hm hOT
  go_wp2_with fail
  refine HO.out.mono ?_
  rintro e w7 ⟨C7, z7, s7, o7, rfl, m7⟩
  have hst7 := tenStore_new w7 C7 s7 o7
  have m8 : Mod No w6 (w7.alloc (.cells C7 30)) := m7.alloc _
  obtain ⟨w8, hw8⟩ : ∃ w8, w8 = w7.alloc (.cells C7 30) := ⟨_, rfl⟩
  rw [← hw8] at m8
  have hP2 := place_ok w8 k (n + 1) (by omega) (by omega)
  have hcast : ((n + 1 : Nat) : Int) = (n : Int) + 1 := by omega
  rw [hcast] at hP2
  have HP2 := Lib.hid hP2
  have HM8 := Lib.hid m8
  have HW8 := Lib.hid hw8
  clear hmin hsl pj hP2 hcast m7 m8 s7 o7 hw8 hmn hj
  go_wp2_with fail
  rw [← HW8.out]
  refine HP2.out.mono ?_
  rintro e w9 ⟨j2, rfl, hj2, rfl⟩
  have hsl2 := slice_head g5 (n + 1) c5 j2 (by have := HC4.out.2.2.2.2; omega)
  have hcast : ((n + 1 : Nat) : Int) = (n : Int) + 1 := by omega
  have hOC := HOC.out hf w9 g5 c5 j2 (by rw [← HN.out.1]; exact hj2) (by rw [← HN.out.1]; exact HC4.out.2.2.2.2) (fun j u hj => HM8.out.cell (HC4.out.2.1 j u hj) id)
  have HO2 := Lib.hid hOC
  clear hOC hcast hst7
  go_wp2_with fail
  refine HO2.out.mono ?_
  rintro e w10 ⟨C10, s10, o10, rfl, m10⟩
  have hst10 := chgStore_new w10 C10 s10 o10
  have HM10 := Lib.hid m10
  clear m10 s10 o10 hsl2
  go_wp2
  go_ret
  exact ⟨by simp, ((HM0.out.trans HC4.out.2.2.1).trans HM8.out).trans (HM10.out.alloc _)⟩

end Go.Proofs.Ytcnemhhbihhcfaa
