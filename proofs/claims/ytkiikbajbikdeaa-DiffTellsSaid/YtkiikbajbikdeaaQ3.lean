/-
  DfC, DfD, DfE, DfF, DfG, DfH, DfJ, DfK, DfL in one text (pack.py).
-/
import Derived.Test.YtkiikbajbikdeaaQ2
import Derived.Sort.Walk0
import Derived.Deep.CutBlock
import Derived.Deep.DeepCutAuto
namespace Go.Proofs.Ytkiikbajbikdeaa

section
open Go.RowKit Go.MapKept Go.ChangeMaps Go.Maps Go.Sort
open Go.WideElems (Fit)
set_option linter.unusedVariables false
abbrev Nms := List Nm
/-- Names, sorted. -/
def nsort (ns : Nms) : Nms := ns.mergeSort fun x y => decide (x ≤ y)
theorem fits_map {P : Program} {k : TypeId} {R : Value → Option (DataW Unit × List MemPlace)} (hR : ∀ v, ∃ z, R v = some z) {es : Array MapEntry} {clock : Nat} (hs : Stamped es clock) (hk : KeysOk P k es) (hn : es.size ≤ maxLen) : Fit P k R es clock :=
  ⟨hn, hs, fun x hx => by
    obtain ⟨l, hl⟩ := hk x hx
    obtain ⟨z, hz⟩ := hR x.val
    exact ⟨(l, z.1), by simp only [WideElems.rd, hl, hz, Option.map_some, Option.bind_some]⟩⟩
def nilR (_ : Value) : Option (DataW Unit × List MemPlace) := some (.nil, [])
/-- The map's keys as a datum. -/
theorem tmap_owns {S : Nat → Prop} {w : World} {b : Nat} {l : List TV} (h : TMap S w b l) (hl : l.length ≤ 1000000) (hn : ∀ x ∈ l, x.nm.length ≤ 1000000) :
    ∃ D : DataW Unit, w.ownsMap Try.prog 9 nilR b l.length D ∧ Maps.size D = l.length ∧ (strKeys D).Perm (l.map TV.nm) := by
  obtain ⟨es, clock, hb, hs, hk, he⟩ := h.gm
  have hsz : es.size = l.length := by have := congrArg List.length he; simpa [tEnts] using this
  refine ⟨_, ⟨es, clock, hb, fits_map (fun v => ⟨_, rfl⟩) hs hk (by unfold maxLen; omega), by omega, rfl⟩, ?_, ?_⟩
  · show ((es.toList.map _).foldr DataW.insert []).length = _
    rw [(Go.WideShapes.sorted_perm _).length_eq]
    simp [hsz]
  · show (((es.toList.map (WideElems.rg Try.prog 9 nilR)).foldr DataW.insert []).map fun p => strOf p.1).Perm _
    refine ((Go.WideShapes.sorted_perm _).map _).trans ?_
    have e : (es.toList.map (WideElems.rg Try.prog 9 nilR)).map (fun p => strOf p.1) = l.map TV.nm := by
      rw [List.map_map]
      have h2 : es.toList.map (fun e => e.key) = l.map (fun x => tKey x.nm) := by
        have := congrArg (List.map (·.1)) he
        simpa [tEnts, List.map_map, Function.comp_def] using this
      have h3 : l.map TV.nm = (es.toList.map (fun e => e.key)).map (fun v => match v with | .string s => s.data.toList | _ => []) := by
        rw [h2, List.map_map]
        refine List.map_congr_left (fun x _ => ?_)
        simp [tKey, str]
      rw [h3, List.map_map]
      refine List.map_congr_left (fun x hx => ?_)
      have hxk : x.key ∈ l.map (fun x => tKey x.nm) := by rw [← h2]; exact List.mem_map.2 ⟨x, hx, rfl⟩
      obtain ⟨y, hy, hyk⟩ := List.mem_map.1 hxk
      have hk1 := keyOfStr y.nm (hn y hy)
      rw [hyk] at hk1
      simp only [Function.comp_apply, WideElems.rg, WideElems.rd, hk1, nilR, Option.map_some, Option.bind_some, Option.getD_some, strOf]
      rw [← hyk]
      simp [tKey, str]
    rw [e]
theorem nsort_perm {a b : Nms} (h : a.Perm b) : nsort a = nsort b := mergeSort_of_perm h
/-- The names of a map, sorted. -/
theorem names_ok {S : Nat → Prop} {w : World} {b : Nat} {l : List TV} (h : TMap S w b l) (hl : l.length ≤ 1000000) (hn : ∀ x ∈ l, x.nm.length ≤ 1000000) :
    Calls Try.prog 30 #[.func (.func 41) #[] #[.pointer (some ⟨w.heap.size, 0, none⟩)]] (w.alloc (.cells #[.map (some b)] 50)) fun e w' => ∃ A c, e = .returned (.slice A l.length c) ∧
      RowAt (fun j => w.heap.size + 1 ≤ j) w' A ((nsort (l.map TV.nm)).map tKey) ∧ Mod No (w.alloc (.cells #[.map (some b)] 50)) w' := by
  obtain ⟨D, hD, hsz, hp⟩ := tmap_owns h hl hn
  refine (sorted_keys_ok b l.length D nilR w hD (by unfold maxLen; omega) (by omega)).mono ?_
  rintro e w' ⟨v, ss, rfl, hss, hown, _, hb⟩
  have hpm := hss.trans hp
  have hlen : ss.length = l.length := by rw [hpm.length_eq]; simp
  rw [show ss.mergeSort (fun x y => decide (x ≤ y)) = nsort (l.map TV.nm) from nsort_perm hpm] at hown
  have hl2 : (nsort (l.map TV.nm)).length = l.length := by unfold nsort; rw [List.length_mergeSort, List.length_map]
  have he : (nsort (l.map TV.nm)).map encStr = (nsort (l.map TV.nm)).map tKey := rfl
  rw [he] at hown
  rw [hlen] at hown
  obtain ⟨A, c, rfl, _, hr⟩ := RowAt.of_owns hown
  exact ⟨A, c, rfl, by simpa using hr, Mod.of_below hb⟩
end

section
open Go.RowKit Go.MapKept Go.ChangeMaps
set_option linter.unusedVariables false
attribute [local go_sem ↓] Go.wp_at_zero Go.wp_at_succ
attribute [local go_sem ↓] store_fold alloc_fold load_fold slice_op_fold
theorem look_map {α β : Type} {nm : α → Nm} {nb : β → Nm} {f : α → β} (hf : ∀ x, nb (f x) = nm x) (l : List α) (n : Nm) : look nb (l.map f) n = (look nm l n).map f := by
  induction l with
  | nil => rfl
  | cons a l ih =>
    rw [List.map_cons, look_cons, look_cons, hf, ih]
    split <;> rfl
/-- The names, each looked up. -/
def byNames (l : List TV) (ns : Nms) : List Ten := ns.filterMap fun n => (look TV.nm l n).map (·.t)
theorem byNames_step {l : List TV} {ns : Nms} {k : Nat} {n : Nm} {x : TV} (h : ns[k]? = some n) (hx : look TV.nm l n = some x) : byNames l (ns.take (k + 1)) = byNames l (ns.take k) ++ [x.t] := by
  obtain ⟨hl, e⟩ := List.getElem?_eq_some_iff.1 h
  unfold byNames
  rw [List.take_succ_eq_append_getElem hl, e, List.filterMap_append]
  simp [hx]
theorem byNames_srt (l : List TV) : byNames l (nsort (l.map TV.nm)) = srt Ten.name (l.map (·.t)) := by
  unfold byNames srt nsort
  rw [List.map_map]
  congr 1
  funext n
  exact (look_map (nm := TV.nm) (nb := Ten.name) (f := (·.t)) (fun x => rfl) l n).symm
theorem ordered_ok {S : Nat → Prop} {w : World} {b : Nat} {l : List TV} (h : TMap S w b l) (hl : l.length ≤ 1000000) (hsm : ∀ x ∈ l, x.Small) :
    Calls Try.prog 24 #[.map (some b)] w fun e w' => ∃ v L, e = .returned v ∧ OL shTen 34 w' w.heap.size v L ∧ L.map (·.t) = srt Ten.name (l.map (·.t)) ∧ Mod No w w' := by
  have m1 : Mod No w (w.alloc (.cells #[.map (some b)] 50)) := (Mod.refl _ _).alloc _
  have h1 := h.mod m1 (fun f => f) (fun _ _ f => f)
  have hnm := names_ok h hl (fun x hx => (hsm x hx).2.2.2)
  have hks := keys_ok (some b) w
  obtain ⟨N, hN⟩ : ∃ N, N = nsort (l.map TV.nm) := ⟨_, rfl⟩
  obtain ⟨n, hn⟩ : ∃ n, n = l.length := ⟨_, rfl⟩
  rw [← hN, ← hn] at hnm
  have hNl : N.length = n := by rw [hN, hn]; unfold nsort; rw [List.length_mergeSort, List.length_map]
  have hNm : ∀ q ∈ N, q ∈ l.map TV.nm := fun q hq => by rw [hN] at hq; exact List.mem_mergeSort.1 hq
  have hn1 : n ≤ 1000000 := by omega
  have hbs := ten_build
  have HT := Lib.hid h1
  have HS := Lib.hid hsm
  have HNM := Lib.hid hnm
  have HNL := Lib.hid (And.intro hNl (And.intro hNm (And.intro hN hn)))
  clear h h1 hl hsm hnm hNl hNm hN hn m1 hbs
  go_enter Try.func24, Try.ntmps24
  go_wp2_with (first
    | (go_at_call 31; refine hks.mono ?_; rintro e w1 ⟨rfl, rfl⟩)
    | (go_at_call 30; refine HNM.out.mono ?_; rintro e w2 ⟨A, c, rfl, hr, hm⟩; have HR := Lib.hid hr; have HM := Lib.hid hm; clear hr hm))
  have hM2 : Mod No w w2 := ((Mod.refl No w).alloc _).trans HM.out
  have hT2 := HT.out.mod HM.out (fun f => f) (fun _ _ f => f)
  have HT2 := Lib.hid hT2
  have HM2 := Lib.hid hM2
  clear hT2 hM2 hks
  go_loopw [3, 10] (fun v i wr => ∃ (k : Nat) (acc : List TV), i = .int .i64 k ∧ k ≤ n ∧ acc.map (·.t) = byNames l (N.take k) ∧ acc.length = k ∧ OL shTen 34 wr w2.heap.size v acc ∧ Mod No w2 wr) (fun _ i _ => n - (intOf i).toNat)
  case atStart => exact ⟨0, [], rfl, by omega, by simp [byNames], rfl, OL.nil _ _ _ _, Mod.refl _ _⟩
  case round =>
    obtain ⟨k, acc, rfl, hk, hacc, hal, hol, hM⟩ := hrel
    by_cases hlt : k < n
    · obtain ⟨q, hq⟩ : ∃ q, N[k]? = some q := ⟨N[k]'(by have := HNL.out.1; omega), List.getElem?_eq_getElem (by have := HNL.out.1; omega)⟩
      obtain ⟨x, hx⟩ : ∃ x, look TV.nm l q = some x := by
        obtain ⟨y, hy, hyq⟩ := List.mem_map.1 (HNL.out.2.1 q (List.mem_of_getElem? hq))
        rw [← hyq]
        exact ⟨y, look_mem HT.out.nodup hy⟩
      obtain ⟨hxn, hxl⟩ := look_name hx
      have hTr := HT2.out.mod hM (fun f => f) (fun _ _ f => f)
      have hxr := hTr.rows x hxl
      have hxs := HS.out x hxl
      obtain ⟨K, hK⟩ : ∃ K, K = tKey q := ⟨_, rfl⟩
      obtain ⟨CX, hCX⟩ : ∃ CX, CX = x.cells.toArray := ⟨_, rfl⟩
      have f1 := hTr.look q (by have := hxs.2.2.2; unfold TV.nm at hxn; rw [← hxn]; exact this) false
      have hg : tGet l q = .agg CX := by unfold tGet; rw [hx]; simp only [TV.val]; rw [hCX]
      rw [hg, ← hK] at f1
      simp only [Bool.false_eq_true, if_false] at f1
      have hcell : ∃ nb no, A = some ⟨nb, no, none⟩ ∧ wr.cell? ⟨nb, no + k, none⟩ = some K := by
        rcases HR.out with h0 | ⟨nb, no, e, hs, hc⟩
        · have := List.map_eq_nil_iff.1 h0
          rw [this] at hq; simp at hq
        · refine ⟨nb, no, e, hM.cell (hc k K ?_) (fun f => f)⟩
          rw [List.getElem?_map, hq, hK]; rfl
      obtain ⟨nb, no, rfl, f0⟩ := hcell
      have hcp := copied_ok x hxr hxs
      rw [← hCX] at hcp
      have hwr := hM.size
      have hw2 := HM2.out.size
      have HX := Lib.hid (And.intro hq (And.intro hx (And.intro hCX (And.intro hacc (And.intro hal (And.intro hol hM))))))
      have HCP := Lib.hid hcp
      clear hq hx hCX hacc hal hol hM hTr hxr hxs hxn hxl hK hg hcp HR
      go_wp2_with (first
        | (go_at_call 23; refine HCP.out.mono ?_; rintro e w3 ⟨y, rfl, hyt, hyr, hm3⟩;
           obtain ⟨v', w', hrun, hol', hmm⟩ := push_ten (HX.out.2.2.2.2.2.1.mod hm3 (fun _ _ _ f => f)) (x := y) (OL.fresh (H := shTen) HX.out.2.2.2.2.2.1 (B := wr.heap.size) (by omega) (fun q hq => (HX.out.2.2.2.2.2.1.block hq).2) hyr) 22 (by have := HX.out.2.2.2.2.1; omega) (by have := hm3.size; omega);
           have hsl : ∀ W : World, (tenSlice (.agg y.cells.toArray)).run Try.prog W = .ok (.slice (some ⟨W.heap.size, 0, none⟩) 1 1) (W.alloc (.cells y.cells.toArray 34)) := ten_build y.cells.toArray rfl;
           obtain ⟨CY, hCY⟩ : ∃ CY, CY = y.cells.toArray := ⟨_, rfl⟩; rw [← hCY] at hrun hsl ⊢; have H3 := Lib.hid (And.intro hyt (And.intro hol' (And.intro hmm hm3))); clear hyt hyr hm3 hol' hmm hCY)
        | (at_builtin; refine Lib.wpList_append_run _ (by rfl) _ _ _ _ (by rfl) _ _ (by rfl) (by rfl) _ _ hrun ?_))
      have h9 := (HX.out.2.2.2.2.2.1.mod H3.out.2.2.2 (fun _ _ _ f => f)).quiet (HX.out.2.2.2.2.2.2.trans H3.out.2.2.2) H3.out.2.2.1
      refine ⟨⟨k + 1, acc ++ [y], by go_num, by omega, ?_, by have := HX.out.2.2.2.2.1; simp; omega, H3.out.2.1, ?_⟩, by simp [intOf]; omega⟩
      · rw [byNames_step HX.out.1 HX.out.2.1, List.map_append, HX.out.2.2.2.1]
        simp [H3.out.1]
      · exact h9
    · have hkn : k = n := by omega
      have HA := Lib.hid (And.intro hacc (And.intro hol hM))
      clear hacc hol hM hal
      subst hkn
      go_wp2
      go_ret
      refine ⟨_, acc, rfl, HA.out.2.1.lower HM2.out.size, ?_, HM2.out.trans HA.out.2.2⟩
      rw [HA.out.1, List.take_of_length_le (by have := HNL.out.1; omega), HNL.out.2.2.1]
      exact byNames_srt l
end

section
open Go.RowKit Go.MapKept Go.ChangeMaps
set_option linter.unusedVariables false
attribute [local go_sem ↓] Go.wp_at_zero Go.wp_at_succ
attribute [local go_sem ↓] store_fold alloc_fold load_fold slice_op_fold
/-! ### a change's operations under names of their own -/
def cgStore (p v : Value) : Sem Unit := Instr.storeAt 47 p v
theorem cg_store_fold (p v : Value) : Instr.storeAt 47 p v = cgStore p v := rfl
def cgAlloc (v : Value) : Sem Value := Instr.alloc 47 true v
theorem cg_alloc_fold (v : Value) : Instr.alloc 47 true v = cgAlloc v := rfl
def cgLoad (v : Value) : Sem Value := Instr.loadAt 47 v
theorem cg_load_fold (v : Value) : Instr.loadAt 47 v = cgLoad v := rfl
def cgSlice (v : Value) : Sem Value := Instr.buildSlice 23 1 #[(0, v)]
theorem cg_slice_fold (ρ : Operand → Value) (x : Operand) (dst : Option Tmp) (ty : TypeId) (pos : String) (after : Array Edge) (g : Option (Nat × Bool)) :
    execOp ρ { dst := dst, op := .buildSlice 23 1 #[(0, x)], type := ty, pos := pos, after := after, guard := g } = (do pure (Next.value (← cgSlice (ρ x))) : Sem Next) := by
  show (do pure (Next.value (← Instr.buildSlice 23 1 (#[(0, x)].map fun (i, x) => (i, ρ x)))) : Sem Next) = _
  have hm : (#[((0 : Nat), x)].map fun (i, x) => (i, ρ x)) = #[(0, ρ x)] := by simp
  rw [hm]
  rfl
def cgB1 (n : Value) : Sem Value := Instr.build 47 #[(1, n)]
theorem cg_b1_fold (ρ : Operand → Value) (x : Operand) (dst : Option Tmp) (ty : TypeId) (pos : String) (after : Array Edge) (g : Option (Nat × Bool)) :
    execOp ρ { dst := dst, op := .build 47 #[(1, x)], type := ty, pos := pos, after := after, guard := g } = (do pure (Next.value (← cgB1 (ρ x))) : Sem Next) := by
  show (do pure (Next.value (← Instr.build 47 (#[(1, x)].map fun (i, x) => (i, ρ x)))) : Sem Next) = _
  have hm : (#[((1 : Nat), x)].map fun (i, x) => (i, ρ x)) = #[(1, ρ x)] := by simp
  rw [hm]
  rfl
def cgB3 (p n t : Value) : Sem Value := Instr.build 47 #[(0, p), (1, n), (2, t)]
theorem cg_b3_fold (ρ : Operand → Value) (x y z : Operand) (dst : Option Tmp) (ty : TypeId) (pos : String) (after : Array Edge) (g : Option (Nat × Bool)) :
    execOp ρ { dst := dst, op := .build 47 #[(0, x), (1, y), (2, z)], type := ty, pos := pos, after := after, guard := g } = (do pure (Next.value (← cgB3 (ρ x) (ρ y) (ρ z))) : Sem Next) := by
  show (do pure (Next.value (← Instr.build 47 (#[(0, x), (1, y), (2, z)].map fun (i, x) => (i, ρ x)))) : Sem Next) = _
  have hm : (#[((0 : Nat), x), (1, y), (2, z)].map fun (i, x) => (i, ρ x)) = #[(0, ρ x), (1, ρ y), (2, ρ z)] := by simp
  rw [hm]
  rfl
def zTV : TV := ⟨.zero, .slice none 0 0, .slice none 0 0, .slice none 0 0⟩
theorem zTV_cells : zTV.cells.toArray = zTen := rfl
theorem zTV_rows (S : Nat → Prop) (w : World) : zTV.Rows S w := ⟨none, 0, none, 0, none, 0, rfl, rfl, rfl, .nil _ _ _, .nil _ _ _, .nil _ _ _⟩
theorem cg_cells (c : Cg) : c.cells = [.bool c.put, .string (str c.name)] ++ c.x.cells := by simp [Cg.cells, cChg]
theorem cg_one {S : Nat → Prop} {w : World} {c : Cg} (h : c.x.Rows S w) : c.cells.toArray.all (·.oneCell') = true := by
  have h1 := shChg.one (x := c) h
  rw [show shChg.cells c = c.cells by simp only [shChg]] at h1
  exact all_oneCell_toArray h1
theorem cg_len (c : Cg) : c.cells.length = 35 := by simp [cg_cells, TV.len]
set_option maxRecDepth 100000 in
theorem cgB1_run (s : ByteArray) (W : World) : (cgB1 (.string s)).run Try.prog W = .ok (.agg (#[.bool false, .string s] ++ zTen)) W := by
  unfold cgB1
  kernel_rfl
set_option maxRecDepth 100000 in
theorem cgB3_run (b : Bool) (s : ByteArray) (CA : Array Value) (h : CA.size = 33) (W : World) : (cgB3 (.bool b) (.string s) (.agg CA)).run Try.prog W = .ok (.agg (#[.bool b, .string s] ++ CA)) W := by
  unfold cgB3
  obtain ⟨l⟩ := CA
  obtain ⟨c0, c1, c2, c3, c4, c5, c6, c7, c8, c9, c10, c11, c12, c13, c14, c15, c16, c17, c18, c19, c20, c21, c22, c23, c24, c25, c26, c27, c28, c29, c30, c31, c32, rfl⟩ := list33' l (by simpa using h)
  kernel_rfl
theorem cgAlloc_run (W : World) : (cgAlloc (.tuple #[])).run Try.prog W = .ok (.pointer (some ⟨W.heap.size, 0, none⟩)) (W.alloc (.cells zChg 47)) := alloc_chg W
theorem cgStore_new (W : World) (CA : Array Value) (hc : CA.size = 35) (h1 : CA.all (·.oneCell') = true) : (cgStore (.pointer (some ⟨W.heap.size, 0, none⟩)) (.agg CA)).run Try.prog (W.alloc (.cells zChg 47)) = .ok () (W.alloc (.cells CA 47)) := by
  unfold cgStore
  rw [← setRow_alloc W zChg CA]
  exact store_chg (at10 W _) (by rfl) hc h1
theorem cgLoad_mid (W : World) (b o : Nat) (cs : List Value) (hl : cs.length = 35) (h : ∀ j v, cs[j]? = some v → W.cell? ⟨b, o + j, none⟩ = some v) : (cgLoad (.pointer (some ⟨b, o, none⟩))).run Try.prog W = .ok (.agg cs.toArray) W :=
  run_loadAt_mid W b o _ cs _ h Try.underlying47 rfl (by rw [chgSize, hl])
theorem cgSlice_run (CA : Array Value) (h : CA.size = 35) : ∀ W : World, (cgSlice (.agg CA)).run Try.prog W = .ok (.slice (some ⟨W.heap.size, 0, none⟩) 1 1) (W.alloc (.cells CA 47)) := chg_build CA h
/-! ### Find -/
/-- What a lookup yields, as a tenant. -/
def tX (l : List TV) (n : Nm) : TV := (look TV.nm l n).getD zTV
theorem tGet_eq (l : List TV) (n : Nm) : tGet l n = .agg (tX l n).cells.toArray := by
  unfold tGet tX
  cases look TV.nm l n <;> rfl
theorem tX_rows {S : Nat → Prop} {w : World} {l : List TV} (h : ∀ x ∈ l, x.Rows S w) (n : Nm) : (tX l n).Rows S w := by
  unfold tX
  cases hl : look TV.nm l n with
  | none => exact zTV_rows _ _
  | some y => exact h y (look_name hl).2
theorem zTV_small : zTV.Small := by simp [TV.Small, zTV, Ten.zero]
theorem tX_small {l : List TV} (h : ∀ x ∈ l, x.Small) (n : Nm) : (tX l n).Small := by
  unfold tX
  cases hl : look TV.nm l n with
  | none => exact zTV_small
  | some y => exact h y (look_name hl).2
set_option maxRecDepth 100000 in
theorem find_ok {S : Nat → Prop} {w : World} {A : Option Addr} {c n : Nat} (l : List TV) (hA : TVl S w A l) (hn : n = l.length) (hl : l.length ≤ 1000000) (hsm : ∀ x ∈ l, x.Small) (hS : ∀ b, w.heap.size ≤ b → ¬ S b) (q : Nm) (hq : q.length ≤ 1000000) :
    Calls Try.prog 10 #[.slice A n c, .string (str q)] w fun e w' => ∃ y : TV, e = .returned (.tuple #[.agg y.cells.toArray, .bool (look TV.nm l q).isSome]) ∧ y.t = (tX l q).t ∧ y.Rows (fun b => w.heap.size ≤ b) w' ∧ Mod No w w' := by
  have m1 : Mod No w (w.alloc (.cells zTen 34)) := (Mod.refl _ _).alloc _
  have hnm := named_ok (c := c) l (hA.keeps (m1.keeps (fun _ _ _ f => f))) hn hl hsm (fun b hb => hS b (by simp at hb; omega))
  have hal := tenAlloc_run w
  rw [show (w.alloc (.cells zTen 34)).heap.size = w.heap.size + 1 by simp] at hnm
  obtain ⟨K, hK⟩ : ∃ K, K = Value.string (str q) := ⟨_, rfl⟩
  obtain ⟨B, hB⟩ : ∃ B, B = (look TV.nm l q).isSome := ⟨_, rfl⟩
  rw [← hK, ← hB]
  have HN := Lib.hid hnm
  have HQ := Lib.hid (And.intro hq (And.intro hK (And.intro hB hsm)))
  clear hA hn hl hsm hS hnm hq hK hB
  go_enter Try.func10, Try.ntmps10
  go_wp2_with (first
    | (go_at_call 22; refine HN.out.mono ?_; rintro e w2 ⟨rfl, hT, hm2⟩;
       have f1 := hT.look q HQ.out.1 true; rw [tGet_eq, firsts_look, ← HQ.out.2.2.1] at f1; simp only [if_true] at f1; rw [show tKey q = K from HQ.out.2.1.symm] at f1;
       have hr0 := tX_rows hT.rows q;
       have f2 := tenAlloc_run w2; have f3 := tenStore_new w2 (tX (firsts TV.nm l) q).cells.toArray rfl (TV.one hr0);
       have hcp := copied_ok (w := w2.alloc (.cells (tX (firsts TV.nm l) q).cells.toArray 34)) _ (hr0.keeps (((Mod.refl No _).alloc _).keeps (fun _ _ _ f => f))) (tX_small (fun x hx => HQ.out.2.2.2 x ((firsts_sub_from hx).resolve_left (by simp))) q);
       have f4 := tenLoad_run (at10 w2 (.cells (tX (firsts TV.nm l) q).cells.toArray 34)) rfl;
       have hxt : (tX (firsts TV.nm l) q).t = (tX l q).t := by unfold tX; rw [firsts_look];
       obtain ⟨CX, hCX⟩ : ∃ CX, CX = (tX (firsts TV.nm l) q).cells.toArray := ⟨_, rfl⟩; rw [← hCX] at f1 f3 f4 hcp;
       have HC := Lib.hid hcp; have HX := Lib.hid (And.intro hxt hm2); clear hT hm2 hr0 hcp hxt hCX)
    | (go_at_call 23; refine HC.out.mono ?_; rintro e w3 ⟨y, rfl, hyt, hyr, hm3⟩;
       have hz := (((Mod.refl No w2).alloc (.cells CX 34)).trans hm3).obj (HX.out.2.obj (at10 w (.cells zTen 34)) (fun f => f)) (fun f => f);
       have hone := TV.one hyr;
       have hm : Mod No w w3 := (((Mod.refl No w).alloc _).trans HX.out.2).trans (((Mod.refl No w2).alloc _).trans hm3);
       have hsz : w.heap.size ≤ w2.heap.size := by have := HX.out.2.size; simp at this; omega
       have hlt : w.heap.size < w2.heap.size := by have := HX.out.2.size; simp at this; omega
       obtain ⟨CY, hCY⟩ : ∃ CY, CY = y.cells.toArray := ⟨_, rfl⟩; have f5 := tenStore_run hz rfl (CA := y.cells.toArray) rfl hone; rw [← hCY] at f5 ⊢; have HY := Lib.hid (And.intro hyt (And.intro hyr (And.intro hm (And.intro hz (And.intro hCY (And.intro hsz hlt)))))); clear hyt hyr hm hz hone hm3 hCY hsz hlt))
  refine bodyPost_ret (results_cell_tmp rfl _ _ w.heap.size 34 CY (0, 0) _ rfl (setRow_heap _ _ _ _ _ _ HY.out.2.2.2.1) Try.underlying34 rfl (by rw [tenSize, HY.out.2.2.2.2.1]; rfl)) rfl ?_
  rw [HY.out.2.2.2.2.1]
  refine ⟨y, rfl, HY.out.1.trans HX.out.1, ?_, Mod.setRow HY.out.2.2.1 (.inl (Nat.le_refl _)) _⟩
  refine ((HY.out.2.1.imp (fun b hb => ?_)).keeps ((Mod.setRow (F := fun b => b = w.heap.size) (Mod.refl _ _) (.inr rfl) _).keeps (fun b _ (hb : w.heap.size + 1 ≤ b) f => by omega))).imp (fun b (hb : w.heap.size + 1 ≤ b) => by omega)
  have := HY.out.2.2.2.2.2.2
  simp at hb
  omega
end

section
open Go.RowKit Go.MapKept Go.ChangeMaps
set_option linter.unusedVariables false
attribute [local go_sem ↓] Go.wp_at_zero Go.wp_at_succ
attribute [local go_sem ↓] store_fold alloc_fold load_fold slice_op_fold cg_store_fold cg_alloc_fold cg_load_fold cg_slice_fold cg_b1_fold cg_b3_fold
/-- A list of changes' values: each with rows that are there. -/
def CVl (S : Nat → Prop) (w : World) (A : Option Addr) (l : List Cg) : Prop := RowAt S w A (l.flatMap Cg.cells) ∧ ∀ x ∈ l, x.x.Rows S w
theorem CVl.keeps {S : Nat → Prop} {w w' : World} {A : Option Addr} {l : List Cg} (h : CVl S w A l) (hk : Keeps S w w') : CVl S w' A l := ⟨h.1.keeps hk, fun x hx => (h.2 x hx).keeps hk⟩
theorem CVl.nil (S : Nat → Prop) (w : World) (A : Option Addr) : CVl S w A [] := ⟨.nil _ _ _, by simp⟩
theorem CVl.imp {S S' : Nat → Prop} {w : World} {A : Option Addr} {l : List Cg} (h : CVl S w A l) (hs : ∀ b, b < w.heap.size → S b → S' b) : CVl S' w A l := ⟨h.1.mono hs, fun x hx => (h.2 x hx).lt hs⟩
theorem TVl.imp {S S' : Nat → Prop} {w : World} {A : Option Addr} {l : List TV} (h : TVl S w A l) (hs : ∀ b, b < w.heap.size → S b → S' b) : TVl S' w A l := ⟨h.1.mono hs, fun x hx => (h.2 x hx).lt hs⟩
/-- A change as data; over values. -/
def Cg.chg (c : Cg) : Chg Ten := ⟨c.put, c.name, c.x.t⟩
def Cg.chv (c : Cg) : Chg TV := ⟨c.put, c.name, c.x⟩
def Cg.Small (c : Cg) : Prop := c.name.length ≤ 1000000 ∧ c.x.Small
section
variable {α β : Type} {nm : α → Nm} {nb : β → Nm} {f : α → β}
theorem findIdx_map {p : α → Bool} {q : β → Bool} (hp : ∀ x, q (f x) = p x) (l : List α) : (l.map f).findIdx? q = l.findIdx? p := by
  induction l with
  | nil => rfl
  | cons a l ih =>
    rw [List.map_cons, List.findIdx?_cons, List.findIdx?_cons, hp, ih]
theorem mput_map (hf : ∀ x, nb (f x) = nm x) (D : List α) (x : α) : (mput nm D x).map f = mput nb (D.map f) (f x) := by
  unfold mput
  rw [findIdx_map (p := fun y => decide (nm y = nm x)) (q := fun y => decide (nb y = nb (f x))) (fun y => by simp [hf])]
  cases D.findIdx? (fun y => decide (nm y = nm x)) <;> simp
theorem mdel_map (hf : ∀ x, nb (f x) = nm x) (D : List α) (n : Nm) : (mdel nm D n).map f = mdel nb (D.map f) n := by
  unfold mdel
  rw [List.filter_map]
  congr 2
  funext y
  simp [hf]
theorem addFirst_map (hf : ∀ x, nb (f x) = nm x) (D : List α) (x : α) : (addFirst (nm := nm) D x).map f = addFirst (nm := nb) (D.map f) (f x) := by
  unfold addFirst
  rw [List.any_map]
  have : (((fun y => decide (nb y = nb (f x))) ∘ f) : α → Bool) = fun y => decide (nm y = nm x) := by funext y; simp [hf]
  rw [this]
  split <;> simp
theorem firsts_map (hf : ∀ x, nb (f x) = nm x) (l : List α) : (firsts nm l).map f = firsts nb (l.map f) := by
  have : ∀ (acc : List α), (l.foldl (addFirst (nm := nm)) acc).map f = (l.map f).foldl (addFirst (nm := nb)) (acc.map f) := by
    induction l with
    | nil => intro acc; rfl
    | cons a l ih => intro acc; rw [List.foldl_cons, ih, addFirst_map hf, List.map_cons, List.foldl_cons]
  exact this []
end
theorem msteps_map (cs : List Cg) (D : List TV) : ((cs.map Cg.chv).foldl (mstep TV.nm) D).map (·.t) = (cs.map Cg.chg).foldl (mstep Ten.name) (D.map (·.t)) := by
  induction cs generalizing D with
  | nil => rfl
  | cons c cs ih =>
    rw [List.map_cons, List.map_cons, List.foldl_cons, List.foldl_cons, ih]
    congr 1
    unfold mstep
    cases hp : c.put with
    | true => simp only [Cg.chv, Cg.chg, hp, if_true]; exact mput_map (nm := TV.nm) (nb := Ten.name) (f := (·.t)) (fun _ => rfl) D c.x
    | false => simp only [Cg.chv, Cg.chg, hp]; exact mdel_map (nm := TV.nm) (nb := Ten.name) (f := (·.t)) (fun _ => rfl) D c.name
theorem msteps_len (cs : List (Chg TV)) (D : List TV) : (cs.foldl (mstep TV.nm) D).length ≤ D.length + cs.length := by
  induction cs generalizing D with
  | nil => simp
  | cons c cs ih =>
    rw [List.foldl_cons]
    refine Nat.le_trans (ih _) ?_
    have : (mstep TV.nm D c).length ≤ D.length + 1 := by
      unfold mstep
      split
      · exact mput_len D c.t
      · exact Nat.le_trans (mdel_len D c.name) (by omega)
    rw [List.length_cons]
    omega
theorem msteps_sub {cs : List (Chg TV)} {D : List TV} {p : TV → Prop} (hD : ∀ x ∈ D, p x) (hc : ∀ c ∈ cs, p c.t) : ∀ x ∈ cs.foldl (mstep TV.nm) D, p x := by
  induction cs generalizing D with
  | nil => exact hD
  | cons c cs ih =>
    rw [List.foldl_cons]
    refine ih (fun x hx => ?_) (fun c hc' => hc c (List.mem_cons_of_mem _ hc'))
    unfold mstep at hx
    split at hx
    · rcases mput_sub hx with h | rfl
      · exact hD x h
      · exact hc c (by simp)
    · exact hD x (List.mem_filter.1 hx).1
theorem cg_step {cs : List Cg} {k : Nat} {c : Cg} (h : cs[k]? = some c) (D : List TV) : ((cs.take (k + 1)).map Cg.chv).foldl (mstep TV.nm) D = mstep TV.nm (((cs.take k).map Cg.chv).foldl (mstep TV.nm) D) c.chv := by
  obtain ⟨hl, e⟩ := List.getElem?_eq_some_iff.1 h
  rw [List.take_succ_eq_append_getElem hl, e, List.map_append, List.foldl_append]
  rfl
set_option maxRecDepth 100000 in
theorem apply_ok {S : Nat → Prop} {w : World} {A C : Option Addr} {c n d m : Nat} (l : List TV) (cs : List Cg) (hA : TVl S w A l) (hn : n = l.length) (hl : l.length ≤ 100000) (hsm : ∀ x ∈ l, x.Small) (hS : ∀ b, w.heap.size ≤ b → ¬ S b)
    (hC : CVl S w C cs) (hm : m = cs.length) (hcl : cs.length ≤ 100000) (hcm : ∀ x ∈ cs, x.Small) :
    Calls Try.prog 13 #[.slice A n c, .slice C m d] w fun e w' => ∃ v L, e = .returned v ∧ OL shTen 34 w' w.heap.size v L ∧ L.map (·.t) = applied Ten.name (l.map (·.t)) (cs.map Cg.chg) ∧ Mod No w w' := by
  have hnm := named_ok (c := c) l hA hn (by omega) hsm hS
  have hn1 : n ≤ 1000000 := by omega
  have hm1 : m ≤ 1000000 := by omega
  have hcd : (firsts TV.nm l).length ≤ 100000 := by have := firsts_len (nm := TV.nm) l; omega
  obtain ⟨B, hB⟩ : ∃ B, B = w.heap.size := ⟨_, rfl⟩
  rw [← hB] at hnm
  have hlen : m ≤ 100000 := by omega
  have HN := Lib.hid hnm
  have H0 := Lib.hid (And.intro hm (And.intro hcm (And.intro hsm (And.intro hS (And.intro hC (And.intro hcd (And.intro hB hlen)))))))
  clear hA hn hl hsm hS hnm hC hm hcl hcm hcd hB hlen
  go_enter Try.func13, Try.ntmps13
  go_wp2_with (go_at_call 22; refine HN.out.mono ?_; rintro e w2 ⟨rfl, hT, hm2⟩; have HT := Lib.hid hT; have HM := Lib.hid hm2; clear hT hm2)
  go_loopw [12] (fun i wr => ∃ k : Nat, i = .int .i64 k ∧ k ≤ m ∧ TMap S wr B (((cs.take k).map Cg.chv).foldl (mstep TV.nm) (firsts TV.nm l)) ∧ Mod No w wr) (fun i _ => m - (intOf i).toNat)
  case atStart => exact ⟨0, rfl, by omega, HT.out, HM.out⟩
  case round =>
    obtain ⟨k, rfl, hk, hT, hM⟩ := hrel
    by_cases hlt : k < m
    · obtain ⟨x, hx⟩ : ∃ x : Cg, cs[k]? = some x := ⟨cs[k]'(by have := H0.out.1; omega), List.getElem?_eq_getElem (by have := H0.out.1; omega)⟩
      have hxl : x ∈ cs := List.mem_of_getElem? hx
      have hC' := H0.out.2.2.2.2.1.keeps (hM.keeps (fun _ _ _ f => f))
      obtain ⟨a, o, rfl, has, hal, hcell⟩ := RowAt.elem Cg.cells 35 cg_len (by decide) hC'.1 hx
      have hxs := H0.out.2.1 x hxl
      have hxr := hC'.2 x hxl
      have f1 := cgLoad_mid wr a (o + k * 35) x.cells (cg_len x) hcell
      have hone' := cg_one hxr
      obtain ⟨CC, hCC⟩ : ∃ CC, CC = x.cells.toArray := ⟨_, rfl⟩
      rw [← hCC] at f1 hone'
      have hCs : CC.size = 35 := by rw [hCC]; simp [cg_len]
      have f2 := cgAlloc_run wr
      have f3 := cgStore_new wr CC hCs hone'
      have hblk : (wr.alloc (.cells CC 47)).heap[wr.heap.size]? = some (.cells CC 47 (0, 0)) := at10 wr _
      have m1 : Mod No wr (wr.alloc (.cells CC 47)) := (Mod.refl _ _).alloc _
      have hT1 := hT.mod m1 (fun f => f) (fun _ _ f => f)
      have f4 : (wr.alloc (.cells CC 47)).cell? ⟨wr.heap.size, 0, none⟩ = some (.bool x.put) := (blk_cell hblk 0).trans (by rw [hCC, cg_cells]; simp)
      have hbS : ¬ S B := H0.out.2.2.2.1 B (by have := H0.out.2.2.2.2.2.2.1; omega)
      have hMw := hM.trans m1
      cases hp : x.put with
      | true =>
        rw [hp] at f4
        obtain ⟨K, hK⟩ : ∃ K, K = tKey x.x.nm := ⟨_, rfl⟩
        obtain ⟨CX, hCX⟩ : ∃ CX, CX = x.x.cells.toArray := ⟨_, rfl⟩
        have f5 : (wr.alloc (.cells CC 47)).cell? ⟨wr.heap.size, 2, none⟩ = some K := (blk_cell hblk 2).trans (by rw [hCC, cg_cells, hK]; simp [TV.cells, Ten.cells, tKey, TV.nm])
        have f6 : (tenLoad (.pointer (some ⟨wr.heap.size, 2, none⟩))).run Try.prog (wr.alloc (.cells CC 47)) = .ok (.agg CX) (wr.alloc (.cells CC 47)) := by
          rw [hCX]
          exact tenLoad_mid _ _ _ _ x.x.len (fun j v hj => (blk_cell hblk (2 + j)).trans (by rw [hCC, cg_cells, Nat.add_comm 2 j]; simpa using hj))
        obtain ⟨w3, f7, hT3, hM3⟩ := hT1.put (x := x.x) (hxr.keeps (m1.keeps (fun _ _ _ f => f))) hbS hxs.2.2.2.2
        rw [show x.x.val = .agg CX by rw [hCX]; rfl, ← hK] at f7
        have H3 := Lib.hid (And.intro hT3 (And.intro (hMw.trans' hM3 (fun i hi f => by have := H0.out.2.2.2.2.2.2.1; omega)) (And.intro hx hp)))
        clear hx hxl hC' hcell hxs hxr hone' hCC hCs hblk m1 hT1 hT hM hbS hMw hp hK hCX hT3 hM3 has
        go_wp2
        exact ⟨⟨k + 1, by go_num, by omega, by rw [cg_step H3.out.2.2.1]; unfold mstep; simp only [Cg.chv, H3.out.2.2.2, if_true]; exact H3.out.1, H3.out.2.1⟩, by simp [intOf]; omega⟩
      | false =>
        rw [hp] at f4
        obtain ⟨K, hK⟩ : ∃ K, K = tKey x.name := ⟨_, rfl⟩
        have f5 : (wr.alloc (.cells CC 47)).cell? ⟨wr.heap.size, 1, none⟩ = some K := (blk_cell hblk 1).trans (by rw [hCC, cg_cells, hK]; simp [tKey])
        obtain ⟨w3, f7, hT3, hM3⟩ := hT1.del x.name hxs.1 hbS
        have f8 := f7 0
        rw [← hK] at f8
        have H3 := Lib.hid (And.intro hT3 (And.intro (hMw.trans' hM3 (fun i hi f => by have := H0.out.2.2.2.2.2.2.1; omega)) (And.intro hx hp)))
        clear hx hxl hC' hcell hxs hxr hone' hCC hCs hblk m1 hT1 hT hM hbS hMw hp hK hT3 hM3 has f7
        go_wp2
        exact ⟨⟨k + 1, by go_num, by omega, by rw [cg_step H3.out.2.2.1]; unfold mstep; simp only [Cg.chv, H3.out.2.2.2]; exact H3.out.1, H3.out.2.1⟩, by simp [intOf]; omega⟩
    · have hkn : k = m := by omega
      subst hkn
      rw [List.take_of_length_le (by have := H0.out.1; omega)] at hT
      obtain ⟨D, hD⟩ : ∃ D, D = (cs.map Cg.chv).foldl (mstep TV.nm) (firsts TV.nm l) := ⟨_, rfl⟩
      rw [← hD] at hT
      have hsmD : ∀ x ∈ D, x.Small := by
        rw [hD]
        exact msteps_sub (fun x hx => H0.out.2.2.1 x ((firsts_sub_from hx).resolve_left (by simp))) (fun c hc => by
          obtain ⟨g, hg, rfl⟩ := List.mem_map.1 hc
          exact (H0.out.2.1 g hg).2)
      have hlD : D.length ≤ 1000000 := by
        rw [hD]
        have := msteps_len (cs.map Cg.chv) (firsts TV.nm l)
        rw [List.length_map] at this
        have h2 := H0.out.2.2.2.2.2.1
        have h3 := H0.out.2.2.2.2.2.2.2
        have h4 := H0.out.1
        omega
      have hord := ordered_ok hT hlD hsmD
      have HO := Lib.hid hord
      have HD := Lib.hid (And.intro hD hM)
      clear hT hM hsmD hlD hord hD
      go_wp2_with (go_at_call 24; refine HO.out.mono ?_; rintro e w4 ⟨v, L, rfl, hol, hLt, hm4⟩; have H4 := Lib.hid (And.intro hol (And.intro hLt hm4)); clear hol hLt hm4)
      go_ret
      refine ⟨_, L, rfl, H4.out.1.lower HD.out.2.size, ?_, HD.out.2.trans H4.out.2.2⟩
      rw [H4.out.2.1, HD.out.1, msteps_map, firsts_map (nm := TV.nm) (nb := Ten.name) (f := (·.t)) (fun _ => rfl)]
      rfl
end

section
open Go.RowKit Go.MapKept Go.ChangeMaps
set_option linter.unusedVariables false
attribute [local go_sem ↓] Go.wp_at_zero Go.wp_at_succ
attribute [local go_sem ↓] store_fold alloc_fold load_fold slice_op_fold
theorem puts_names (X D : List TV) (n : Nm) : n ∈ (X.foldl (mput TV.nm) D).map TV.nm ↔ n ∈ D.map TV.nm ∨ n ∈ X.map TV.nm := by
  induction X generalizing D with
  | nil => simp
  | cons x X ih =>
    rw [List.foldl_cons, ih, List.map_cons, List.mem_cons]
    have : n ∈ (mput TV.nm D x).map TV.nm ↔ n ∈ D.map TV.nm ∨ n = x.nm := by
      rcases mput_cases (nm := TV.nm) D x with ⟨i, y, hi, he, e⟩ | ⟨_, e⟩
      · rw [e, set_names (nm := TV.nm) hi he]
        exact ⟨.inl, fun h => h.elim id (fun h => by rw [h, ← he]; exact List.mem_map.2 ⟨y, List.mem_of_getElem? hi, rfl⟩)⟩
      · rw [e, List.map_append, List.mem_append]
        simp
    rw [this]
    constructor
    · rintro ((h | h) | h)
      · exact .inl h
      · exact .inr (.inl h)
      · exact .inr (.inr h)
    · rintro (h | h | h)
      · exact .inl (.inl h)
      · exact .inl (.inr h)
      · exact .inr h
theorem puts_sub {X D : List TV} {p : TV → Prop} (hD : ∀ x ∈ D, p x) (hX : ∀ x ∈ X, p x) : ∀ x ∈ X.foldl (mput TV.nm) D, p x := by
  induction X generalizing D with
  | nil => exact hD
  | cons a X ih =>
    rw [List.foldl_cons]
    refine ih (fun x hx => ?_) (fun x hx => hX x (List.mem_cons_of_mem _ hx))
    rcases mput_sub hx with h | rfl
    · exact hD x h
    · exact hX _ (by simp)
theorem puts_len (X D : List TV) : (X.foldl (mput TV.nm) D).length ≤ D.length + X.length := by
  induction X generalizing D with
  | nil => simp
  | cons a X ih =>
    rw [List.foldl_cons]
    have := ih (mput TV.nm D a)
    have h2 := mput_len (nm := TV.nm) D a
    rw [List.length_cons]
    omega
theorem ents_mem {D : List TV} {x v : Value} (h : (x, v) ∈ tEnts D) : ∃ y ∈ D, x = tKey y.nm ∧ v = y.val := by
  obtain ⟨y, hy, e⟩ := List.mem_map.1 h
  cases e
  exact ⟨y, hy, rfl, rfl⟩
theorem ents_keys (D : List TV) : (tEnts D).map (·.1) = (D.map TV.nm).map tKey := by
  unfold tEnts
  rw [List.map_map, List.map_map]
  rfl
theorem mem_keys {D : List TV} {n : Nm} : tKey n ∈ (tEnts D).map (·.1) ↔ n ∈ D.map TV.nm := by
  rw [ents_keys]
  constructor
  · intro h
    obtain ⟨q, hq, e⟩ := List.mem_map.1 h
    rw [← tKey_inj e]
    exact hq
  · exact fun h => List.mem_map.2 ⟨n, h, rfl⟩
set_option maxRecDepth 100000 in
theorem copy_ok {S : Nat → Prop} {w : World} {b b2 : Nat} {D D2 : List TV} (h : TMap S w b D) (h2 : TMap S w b2 D2) (hne : b2 ≠ b) (hS : ¬ S b) (hSw : ∀ j, w.heap.size ≤ j → ¬ S j) (hsm : ∀ x ∈ D2, x.Small) :
    Calls Try.prog 29 #[.map (some b), .map (some b2)] w fun e w' => e = .returned (.tuple #[]) ∧ (∃ D', TMap S w' b D' ∧ (∀ n, n ∈ D'.map TV.nm ↔ n ∈ D.map TV.nm ∨ n ∈ D2.map TV.nm) ∧ D'.length ≤ D.length + D2.length ∧ ∀ p : TV → Prop, (∀ x ∈ D, p x) → (∀ x ∈ D2, p x) → ∀ x ∈ D', p x) ∧ Mod (fun j => j = b) w w' := by
  obtain ⟨w1, hr1, hI, mI⟩ := GIter.start h2.gm Try.underlying50
  obtain ⟨r, hr⟩ : ∃ r, r = w.heap.size := ⟨_, rfl⟩
  rw [← hr] at hr1 hI
  have hbr : b ≠ r := by
    obtain ⟨es, cl, hb, _⟩ := h.gm
    have := lt_of_block hb
    omega
  have mI' : Mod No w w1 := mI
  have hI' : GIter Try.prog 9 w1 b2 r (tEnts D2) (tEnts []) := hI
  have H0 := Lib.hid (And.intro hI' (And.intro (h.mod mI' (fun f => f) (fun _ _ f => f)) (And.intro mI' (And.intro hr (And.intro hbr (And.intro hne (And.intro hS (And.intro hsm (And.intro hSw h2.rows)))))))))
  clear h h2 hI mI hr hbr hne hS hsm mI' hI' hSw
  go_enter Try.func29, Try.ntmps29
  go_wp2
  go_loopg [] D2.length (fun k wr => ∃ X : List TV, k + X.length = D2.length ∧ GIter Try.prog 9 wr b2 r (tEnts D2) (tEnts X) ∧ TMap S wr b (X.foldl (mput TV.nm) D) ∧ (∀ x ∈ X, x ∈ D2) ∧ Mod (fun j => j = b) w wr ∧ r < wr.heap.size)
  case atStart =>
    refine ⟨[], by simp, H0.out.1, H0.out.2.1, by simp, H0.out.2.2.1.mono (fun _ f => f.elim), ?_⟩
    obtain ⟨es, cl, since, seen, c0, E, x1, x2, x3, x4, x5, _⟩ := H0.out.1
    exact lt_of_block x5
  case round =>
    obtain ⟨X, hk, hit, hT, hX, hM, hrl⟩ := hrel
    have hT' := Lib.hid (And.intro hk (And.intro hit (And.intro hT (And.intro hX (And.intro hM hrl)))))
    rcases hit.step 0 with ⟨hp, hnx⟩ | ⟨x, v, w2, hmem, hnew, hnx, hI2, hlt, hm2, hz2, hen⟩
    · have HP := Lib.hid hp
      clear hk hit hT hX hM hrl hp
      go_wp2
      go_end0
      refine ⟨rfl, ⟨_, hT'.out.2.2.1, fun n => ?_, ?_, fun p h1 h2 => puts_sub h1 (fun x hx => h2 x (hT'.out.2.2.2.1 x hx))⟩, hT'.out.2.2.2.2.1⟩
      · rw [puts_names, ← mem_keys (D := X), (HP.out.map _).mem_iff, mem_keys]
      · have := puts_len X D
        have h1 := hT'.out.1
        omega
    · obtain ⟨y, hy, rfl, rfl⟩ := ents_mem hmem
      have hys := H0.out.2.2.2.2.2.2.2.1 y hy
      have hrr : ∀ j, S j → j ≠ b ∧ j ≠ r := fun j hs => ⟨fun f => H0.out.2.2.2.2.2.2.1 (by rw [← f]; exact hs), fun f => H0.out.2.2.2.2.2.2.2.2.1 j (by have := H0.out.2.2.2.1; omega) hs⟩
      have hbr := H0.out.2.2.2.2.1
      have hb2r : b2 ≠ r := by
        intro f
        obtain ⟨es, cl, since, seen, c0, E, x1, x2, x3, x4, x5, _⟩ := hit
        rw [f, x5] at x1
        cases x1
      have hTw : TMap S w2 b (X.foldl (mput TV.nm) D) := hT.mod hm2 hbr (fun j hs => (hrr j hs).2)
      have hyr : y.Rows S w2 := ((H0.out.2.2.2.2.2.2.2.2.2 y hy).keeps (hM.keeps (fun j _ hs f => (hrr j hs).1 f))).keeps (hm2.keeps (fun j _ hs f => (hrr j hs).2 f))
      have m3 : Mod No w2 (w2.alloc (.cells y.cells.toArray 34)) := (Mod.refl _ _).alloc _
      obtain ⟨w3, f7, hT3, hM3⟩ := (hTw.mod m3 (fun f => f) (fun _ _ f => f)).put (x := y) (hyr.keeps (m3.keeps (fun _ _ _ f => f))) H0.out.2.2.2.2.2.2.1 hys.2.2.2
      have f1 := tenAlloc_run w2
      have f2 := tenStore_new w2 y.cells.toArray rfl (TV.one hyr)
      have f3 := tenLoad_run (at10 w2 (.cells y.cells.toArray 34)) rfl
      obtain ⟨CY, hCY⟩ : ∃ CY, CY = y.cells.toArray := ⟨_, rfl⟩
      obtain ⟨K, hK⟩ : ∃ K, K = tKey y.nm := ⟨_, rfl⟩
      rw [show y.val = Value.agg CY by rw [hCY]; rfl] at hnx hen f7
      rw [← hCY] at f2 f3 f7
      rw [← hK] at hnx hen f7
      have hM3' : Mod (fun j => j = b) w w3 := by
        refine (hM.trans' (hm2.trans (m3.mono (fun _ f => f.elim))) (fun j hj f => ?_)).trans hM3
        have := H0.out.2.2.2.1
        omega
      have hI3 : GIter Try.prog 9 w3 b2 r (tEnts D2) (tEnts (X ++ [y])) := by
        have e : tEnts (X ++ [y]) = tEnts X ++ [(tKey y.nm, y.val)] := by simp [tEnts]
        rw [e]
        exact (hI2.mod m3 (fun f => f) (fun f => f)).mod hM3 H0.out.2.2.2.2.2.1 (fun f => hbr f.symm)
      have HF := Lib.hid (And.intro hy (And.intro hT3 (And.intro hM3' (And.intro hI3 (And.intro hlt (And.intro hM3.size hz2))))))
      clear hk hit hT hX hM hrl hmem hnew hI2 hlt hm2 hz2 hrr hbr hb2r hTw hyr m3 hT3 hM3 hCY hK hM3' hI3 hy hys
      go_wp2
      have h8 := HF.out.2.2.2.2.2.1
      have h9 := HF.out.2.2.2.2.2.2
      have h7 := hT'.out.2.2.2.2.2
      have h5 := HF.out.2.2.2.2.1
      simp [tEnts] at h5
      simp at h8
      go_roundg (D2.length - (X.length + 1))
      case measure => have := hT'.out.1; omega
      case rel =>
        refine ⟨X ++ [y], by simp; omega, HF.out.2.2.2.1, by rw [List.foldl_append]; exact HF.out.2.1, ?_, HF.out.2.2.1, by omega⟩
        intro z hz
        rcases List.mem_append.1 hz with hz | hz
        · exact hT'.out.2.2.2.1 z hz
        · obtain rfl : z = y := by simpa using hz
          exact HF.out.1
end

section
open Go.RowKit Go.MapKept Go.ChangeMaps
set_option linter.unusedVariables false
attribute [local go_sem ↓] Go.wp_at_zero Go.wp_at_succ
attribute [local go_sem ↓] store_fold alloc_fold load_fold slice_op_fold cg_store_fold cg_alloc_fold cg_load_fold cg_slice_fold cg_b1_fold cg_b3_fold
theorem TV.Rows.val {S : Nat → Prop} {w : World} {x : TV} (h : x.Rows S w) : TenV S w x.t (.agg x.cells.toArray) := by
  obtain ⟨P, p, Q, q, R, r, e1, e2, e3, r1, r2, r3⟩ := h
  exact ⟨P, p, Q, q, R, r, by simp [TV.cells, e1, e2, e3], r1, r2, r3⟩
theorem tsame_ok {S S' : Nat → Prop} {w : World} {x y : TV} (hx : x.Rows S w) (hy : y.Rows S' w) (hs : x.Small) :
    Calls Try.prog 32 #[.agg x.cells.toArray, .agg y.cells.toArray] w fun e w' => e = .returned (.bool (decide (x.t = y.t))) ∧ Mod No w w' :=
  same_ok x.t y.t _ _ hx.val hy.val (by have := hs.1; omega) (by have := hs.2.1; omega) (by have := hs.2.2.1; omega)
theorem cloneMap_ok {S : Nat → Prop} {w : World} {b : Nat} {D : List TV} (h : TMap S w b D) :
    Calls Try.prog 28 #[.map (some b)] w fun e w' => e = .returned (.map (some w.heap.size)) ∧ TMap S w' w.heap.size D ∧ Mod No w w' := by
  obtain ⟨es, clock, hb, hs, hk, he⟩ := h.gm
  refine (clone_ok b es clock w hb).mono ?_
  rintro e w' ⟨rfl, rfl⟩
  have m : Mod No w (w.alloc (.map es clock)) := (Mod.refl _ _).alloc _
  exact ⟨rfl, ⟨⟨es, clock, at10 w _, hs, hk, he⟩, fun x hx => (h.rows x hx).keeps (m.keeps (fun _ _ _ f => f))⟩, m⟩
/-- What Diff tells, of data. -/
def dff (a b : List Ten) : List (Chg Ten) := mrg Ten.name Ten.zero (applied Ten.name a []) (applied Ten.name b [])
theorem dff_eq {ns : List Nm} (hn : ns.Nodup) {a b : List Ten} (hns : ∀ n, n ∈ ns ↔ look Ten.name a n ≠ none ∨ look Ten.name b n ≠ none) : dff a b = diffd Ten.name Ten.zero ns a b :=
  mrg_eq hn (applied_sd a []) (applied_sd b []) (fun n => by rw [applied_look]; rfl) (fun n => by rw [applied_look]; rfl) hns
def difs (a b : List Ten) (ns : List Nm) : List (Chg Ten) := ns.filterMap fun n => dif Ten.zero n (look Ten.name a n) (look Ten.name b n)
theorem difs_step {a b : List Ten} {ns : List Nm} {k : Nat} {q : Nm} (h : ns[k]? = some q) : difs a b (ns.take (k + 1)) = difs a b (ns.take k) ++ (dif Ten.zero q (look Ten.name a q) (look Ten.name b q)).toList := by
  obtain ⟨hl, e⟩ := List.getElem?_eq_some_iff.1 h
  unfold difs
  rw [List.take_succ_eq_append_getElem hl, e, List.filterMap_append]
  cases hd : dif Ten.zero q (look Ten.name a q) (look Ten.name b q) <;> simp [hd]
theorem mem_names {l : List TV} {n : Nm} : n ∈ l.map TV.nm ↔ look TV.nm l n ≠ none := by
  rw [List.mem_map]
  constructor
  · rintro ⟨x, hx, rfl⟩ f
    exact look_none.1 f x hx rfl
  · intro h
    cases hl : look TV.nm l n with
    | none => exact absurd hl h
    | some x => exact ⟨x, (look_name hl).2, (look_name hl).1⟩
theorem lookT (l : List TV) (n : Nm) : look Ten.name (l.map (·.t)) n = (look TV.nm l n).map (·.t) := look_map (nm := TV.nm) (nb := Ten.name) (f := (·.t)) (fun _ => rfl) l n
theorem tX_some {l : List TV} {n : Nm} (h : (look TV.nm l n).isSome = true) : (look TV.nm l n).map (·.t) = some (tX l n).t := by
  unfold tX
  cases hl : look TV.nm l n with
  | none => rw [hl] at h; cases h
  | some x => rfl
theorem tX_none {l : List TV} {n : Nm} (h : (look TV.nm l n).isSome = false) : (look TV.nm l n).map (·.t) = none := by
  cases hl : look TV.nm l n with
  | none => rfl
  | some x => rw [hl] at h; cases h
theorem tX_firsts (l : List TV) (n : Nm) : tX (firsts TV.nm l) n = tX l n := by unfold tX; rw [firsts_look]
set_option maxRecDepth 100000 in
set_option maxHeartbeats 1000000 in
theorem diff_ok {S : Nat → Prop} {w : World} {A A2 : Option Addr} {c n c2 n2 : Nat} (a b : List TV) (hA : TVl S w A a) (hn : n = a.length) (hl : a.length ≤ 100000) (hsm : ∀ x ∈ a, x.Small)
    (hA2 : TVl S w A2 b) (hn2 : n2 = b.length) (hl2 : b.length ≤ 100000) (hsm2 : ∀ x ∈ b, x.Small) (hS : ∀ b, w.heap.size ≤ b → ¬ S b) :
    Calls Try.prog 17 #[.slice A n c, .slice A2 n2 c2] w fun e w' => ∃ v L, e = .returned v ∧ OL shChg 47 w' w.heap.size v L ∧ L.map Cg.chg = dff (a.map (·.t)) (b.map (·.t)) ∧ (∀ c ∈ L, c.Small) ∧ L.length ≤ a.length + b.length ∧ Mod No w w' := by
  have hnm := named_ok (c := c) a hA hn (by omega) hsm hS
  have hn1 : n ≤ 1000000 := by omega
  have hn3 : n2 ≤ 1000000 := by omega
  obtain ⟨B1, hB1⟩ : ∃ B, B = w.heap.size := ⟨_, rfl⟩
  rw [← hB1] at hnm
  have HN := Lib.hid hnm
  have H0 := Lib.hid (And.intro hA2 (And.intro hn2 (And.intro hl2 (And.intro hsm2 (And.intro hS (And.intro hsm (And.intro hl hB1)))))))
  clear hA hn hl hsm hS hnm hA2 hn2 hl2 hsm2 hB1
  go_enter Try.func17, Try.ntmps17
  go_wp2_with (first
    | (go_at_call_of 22 (Value.slice A n c); refine HN.out.mono ?_; rintro e w2 ⟨rfl, hT, hm2⟩;
       have hnm := named_ok (c := c2) b (H0.out.1.keeps (hm2.keeps (fun _ _ _ f => f))) H0.out.2.1 (by have := H0.out.2.2.1; omega) H0.out.2.2.2.1 (fun j hj => H0.out.2.2.2.2.1 j (by have := hm2.size; omega));
       obtain ⟨B2, hB2⟩ : ∃ B, B = w2.heap.size := ⟨_, rfl⟩; rw [← hB2] at hnm;
       have hB12 : B1 < B2 := (by obtain ⟨es, cl, hb, _⟩ := hT.gm; have := lt_of_block hb; omega);
       have HN2 := Lib.hid hnm; have H2 := Lib.hid (And.intro hT (And.intro hm2 (And.intro hB2 hB12))); clear hT hm2 hnm hB2 hB12)
    | (go_at_call_of 22 (Value.slice A2 n2 c2); refine HN2.out.mono ?_; rintro e w3 ⟨rfl, hT, hm3⟩;
       have hTa := H2.out.1.mod hm3 (fun f => f) (fun _ _ f => f);
       have hcl := cloneMap_ok hTa;
       obtain ⟨B3, hB3⟩ : ∃ B, B = w3.heap.size := ⟨_, rfl⟩; rw [← hB3] at hcl;
       have hB23 : B2 < B3 := (by obtain ⟨es, cl, hb, _⟩ := hT.gm; have := lt_of_block hb; omega);
       have HCL := Lib.hid hcl; have H3 := Lib.hid (And.intro hTa (And.intro hT (And.intro (H2.out.2.1.trans hm3) (And.intro hB3 hB23)))); clear hT hm3 hTa hcl hB3 hB23)
    | (go_at_call 28; refine HCL.out.mono ?_; rintro e w4 ⟨rfl, hT, hm4⟩;
       have hcp := copy_ok hT (H3.out.2.1.mod hm4 (fun f => f) (fun _ _ f => f)) (by have := H3.out.2.2.2.2; omega) (H0.out.2.2.2.2.1 B3 (by have h1 := H3.out.2.2.2.2; have h2 := H2.out.2.2.2; have h3 := H0.out.2.2.2.2.2.2.2; omega)) (fun j hj => H0.out.2.2.2.2.1 j (by have h1 := hm4.size; have h2 := H3.out.2.2.1.size; omega)) (fun x hx => H0.out.2.2.2.1 x ((firsts_sub_from hx).resolve_left (by simp)));
       have HCP := Lib.hid hcp; have H4 := Lib.hid (And.intro (H3.out.1.mod hm4 (fun f => f) (fun _ _ f => f)) (And.intro (H3.out.2.1.mod hm4 (fun f => f) (fun _ _ f => f)) (H3.out.2.2.1.trans hm4))); clear hT hm4 hcp)
    | (go_at_call 29; refine HCP.out.mono ?_; rintro e w5 ⟨rfl, ⟨D, hT, hDn, hDl, hDp⟩, hm5⟩;
       have hsD : ∀ x ∈ D, x.Small := hDp TV.Small (fun x hx => H0.out.2.2.2.2.2.1 x ((firsts_sub_from hx).resolve_left (by simp))) (fun x hx => H0.out.2.2.2.1 x ((firsts_sub_from hx).resolve_left (by simp)));
       have hlD : D.length ≤ a.length + b.length := (by have h1 := firsts_len (nm := TV.nm) a; have h2 := firsts_len (nm := TV.nm) b; omega);
       have hDn' : ∀ q, q ∈ D.map TV.nm ↔ look TV.nm a q ≠ none ∨ look TV.nm b q ≠ none := (fun q => by rw [hDn, mem_names, mem_names, firsts_look, firsts_look]);
       have hTa5 := H4.out.1.mod hm5 (by have h1 := H3.out.2.2.2.2; have h2 := H2.out.2.2.2; omega) (fun j hs f => H0.out.2.2.2.2.1 j (by have h1 := H3.out.2.2.2.2; have h2 := H2.out.2.2.2; have h3 := H0.out.2.2.2.2.2.2.2; omega) hs);
       have hTb5 := H4.out.2.1.mod hm5 (by have h1 := H3.out.2.2.2.2; omega) (fun j hs f => H0.out.2.2.2.2.1 j (by have h1 := H3.out.2.2.2.2; have h2 := H2.out.2.2.2; have h3 := H0.out.2.2.2.2.2.2.2; omega) hs);
       have hM5 : Mod No w w5 := H4.out.2.2.trans' hm5 (fun i hi f => by have h1 := H3.out.2.2.2.2; have h2 := H2.out.2.2.2; have h3 := H0.out.2.2.2.2.2.2.2; omega);
       have hks := keys_ok (some B3) w5; have hnm := names_ok hT (by have := H0.out.2.2.1; have := H0.out.2.2.2.2.2.2.1; omega) (fun x hx => (hsD x hx).2.2.2);
       obtain ⟨N, hN⟩ : ∃ N, N = nsort (D.map TV.nm) := ⟨_, rfl⟩;
       have hNl : N.length = D.length := (by rw [hN]; unfold nsort; rw [List.length_mergeSort, List.length_map]);
       have hNd : (D.map TV.nm).Nodup := hT.nodup;
       obtain ⟨m, hm⟩ : ∃ m, m = D.length := ⟨_, rfl⟩; rw [← hN, ← hm] at hnm;
       have hm1 : m ≤ 1000000 := (by have := H0.out.2.2.1; have := H0.out.2.2.2.2.2.2.1; omega);
       have HKS := Lib.hid hks; have HNM := Lib.hid hnm; have H5 := Lib.hid (And.intro hTa5 (And.intro hTb5 (And.intro hM5 (And.intro hDn' (And.intro hNl (And.intro hN (And.intro hlD (And.intro hm hNd)))))))); clear hT hDn hDl hDp hm5 hsD hlD hDn' hTa5 hTb5 hM5 hks hnm hNl hN hm hNd)
    | (go_at_call 31; refine HKS.out.mono ?_; rintro e w6 ⟨rfl, rfl⟩)
    | (go_at_call 30; refine HNM.out.mono ?_; rintro e w6 ⟨A6, c6, rfl, hr6, hm6⟩; have H6 := Lib.hid (And.intro hr6 (((Mod.refl No w5).alloc _).trans hm6)); clear hr6 hm6))
  go_loopw [7, 28] (fun v i wr => ∃ (k : Nat) (acc : List Cg), i = .int .i64 k ∧ k ≤ m ∧ acc.map Cg.chg = difs (a.map (·.t)) (b.map (·.t)) (N.take k) ∧ acc.length ≤ k ∧ OL shChg 47 wr w6.heap.size v acc ∧ (∀ c ∈ acc, c.Small) ∧ Mod No w6 wr) (fun _ i _ => m - (intOf i).toNat)
  case atStart => exact ⟨0, [], rfl, by omega, by simp [difs], by simp, OL.nil _ _ _ _, by simp, Mod.refl _ _⟩
  case round =>
    obtain ⟨k, acc, rfl, hk, hacc, hal, hol, hsc, hM⟩ := hrel
    by_cases hlt : k < m
    · as_aux_lemma =>
      obtain ⟨q, hq⟩ : ∃ q, N[k]? = some q := ⟨N[k]'(by have := H5.out.2.2.2.2.1; have := H5.out.2.2.2.2.2.2.2.1; omega), List.getElem?_eq_getElem (by have := H5.out.2.2.2.2.1; have := H5.out.2.2.2.2.2.2.2.1; omega)⟩
      have hqn : q ∈ D.map TV.nm := by
        have := List.mem_of_getElem? hq
        rw [H5.out.2.2.2.2.2.1] at this
        exact List.mem_mergeSort.1 this
      have hql : q.length ≤ 1000000 := by
        rcases (H5.out.2.2.2.1 q).1 hqn with h1 | h1
        · cases hl : look TV.nm a q with
          | none => exact absurd hl h1
          | some x => have h2 := (H0.out.2.2.2.2.2.1 x (look_name hl).2).2.2.2; rw [← (look_name hl).1]; exact h2
        · cases hl : look TV.nm b q with
          | none => exact absurd hl h1
          | some x => have h2 := (H0.out.2.2.2.1 x (look_name hl).2).2.2.2; rw [← (look_name hl).1]; exact h2
      have h56 : Mod No w5 wr := H6.out.2.trans hM
      have hTa := H5.out.1.mod h56 (fun f => f) (fun _ _ f => f)
      obtain ⟨K, hK⟩ : ∃ K, K = tKey q := ⟨_, rfl⟩
      have hcell : ∃ nb no, A6 = some ⟨nb, no, none⟩ ∧ wr.cell? ⟨nb, no + k, none⟩ = some K := by
        rcases H6.out.1 with h0 | ⟨nb, no, e, hs, hc⟩
        · have := List.map_eq_nil_iff.1 h0
          rw [this] at hq; simp at hq
        · refine ⟨nb, no, e, hM.cell (hc k K ?_) (fun f => f)⟩
          rw [List.getElem?_map, hq, hK]; rfl
      obtain ⟨nb, no, rfl, f0⟩ := hcell
      have f1 := hTa.look q hql true
      rw [tGet_eq, tX_firsts, firsts_look, ← hK] at f1
      simp only [if_true] at f1
      have hr1 : (tX a q).Rows S wr := by rw [← tX_firsts]; exact tX_rows hTa.rows q
      have hs1 : (tX a q).Small := tX_small H0.out.2.2.2.2.2.1 q
      have a1 := tenAlloc_run wr
      have a2 := tenStore_new wr (tX a q).cells.toArray rfl (TV.one hr1)
      have m1 : Mod No wr (wr.alloc (.cells (tX a q).cells.toArray 34)) := (Mod.refl _ _).alloc _
      have hTb := (H5.out.2.1.mod h56 (fun f => f) (fun _ _ f => f)).mod m1 (fun f => f) (fun _ _ f => f)
      have f2 := hTb.look q hql true
      rw [tGet_eq, tX_firsts, firsts_look, ← hK] at f2
      simp only [if_true] at f2
      have hr2 : (tX b q).Rows S (wr.alloc (.cells (tX a q).cells.toArray 34)) := by
        have h9 := tX_rows hTb.rows q
        rw [tX_firsts b] at h9
        exact h9
      have hs2 : (tX b q).Small := tX_small H0.out.2.2.2.1 q
      have b1 := tenAlloc_run (wr.alloc (.cells (tX a q).cells.toArray 34))
      have b2 := tenStore_new (wr.alloc (.cells (tX a q).cells.toArray 34)) (tX b q).cells.toArray rfl (TV.one hr2)
      rw [show (wr.alloc (.cells (tX a q).cells.toArray 34)).heap.size = wr.heap.size + 1 by simp] at b1 b2
      obtain ⟨W, hW⟩ : ∃ W, W = (wr.alloc (.cells (tX a q).cells.toArray 34)).alloc (.cells (tX b q).cells.toArray 34) := ⟨_, rfl⟩
      have mW : Mod No wr W := by rw [hW]; exact m1.alloc _
      have g1 : W.heap[wr.heap.size]? = some (.cells (tX a q).cells.toArray 34 (0, 0)) := by rw [hW]; exact at20 wr _ _
      have g2 : W.heap[wr.heap.size + 1]? = some (.cells (tX b q).cells.toArray 34 (0, 0)) := by rw [hW]; exact at21 wr _ _
      rw [← hW] at b2
      have hr1W := hr1.keeps (mW.keeps (fun _ _ _ f => f))
      have hr2W : (tX b q).Rows S W := by
        have := hr2.keeps (((Mod.refl No (wr.alloc (.cells (tX a q).cells.toArray 34))).alloc (.cells (tX b q).cells.toArray 34)).keeps (fun _ _ _ f => f))
        rw [← hW] at this
        exact this
      have hcp : ∀ V, Mod No W V → Calls Try.prog 23 #[.agg (tX b q).cells.toArray] V fun e w' => ∃ y : TV, e = .returned (.agg y.cells.toArray) ∧ y.t = (tX b q).t ∧ y.Rows (fun b => V.heap.size ≤ b) w' ∧ Mod No V w' := fun V hV => copied_ok _ (hr2W.keeps (hV.keeps (fun _ _ _ f => f))) hs2
      have hld : ∀ V, Mod No W V → (tenLoad (.pointer (some ⟨wr.heap.size + 1, 0, none⟩))).run Try.prog V = .ok (.agg (tX b q).cells.toArray) V := fun V hV => tenLoad_run (hV.obj g2 (fun f => f)) rfl
      have l1 : (tenLoad (.pointer (some ⟨wr.heap.size, 0, none⟩))).run Try.prog W = .ok (.agg (tX a q).cells.toArray) W := tenLoad_run g1 rfl
      have l2 := hld W (Mod.refl _ _)
      have hsame := tsame_ok hr1W hr2W hs1
      have d1 := cgB1_run (str q) W
      rw [show Value.string (str q) = K from hK.symm] at d1
      have d1' : #[.bool false, K] ++ zTen = (Cg.mk false q zTV).cells.toArray := by rw [cg_cells, hK]; simp [tKey, zTen, zTV, TV.cells]
      have hnone := H5.out.2.2.2.1 q
      obtain ⟨CA, hCA⟩ : ∃ CA, CA = (tX a q).cells.toArray := ⟨_, rfl⟩
      obtain ⟨CB, hCB⟩ : ∃ CB, CB = (tX b q).cells.toArray := ⟨_, rfl⟩
      rw [← hCA] at f1 a2 f2 b1 b2 l1 hsame
      rw [← hCB] at f2 b2 l2 hsame
      rw [← hCB] at hcp hld
      have HX := Lib.hid (And.intro hq (And.intro hacc (And.intro hal (And.intro hol (And.intro hsc (And.intro (hM.trans mW) (And.intro mW (And.intro hs2 hK))))))))
      have HCP2 := Lib.hid hcp
      have HLD := Lib.hid hld
      have HSM := Lib.hid hsame
      have HQ := Lib.hid (hnone.1 hqn)
      have HD1 := Lib.hid (And.intro d1 d1')
      clear hq hqn hacc hal hol hsc hM h56 hTa hr1 hs1 m1 hTb hr2 hs2 hW mW g1 g2 hr1W hr2W hcp hld hsame hnone hCA hCB hql hK d1 d1'
      have key : ∀ (y : TV) (p : Bool), y.t = (tX b q).t → p = true → (Cg.mk p q y).Small := fun y p e _ => ⟨by
        show q.length ≤ 1000000
        rcases HQ.out with h1 | h1
        · cases hl : look TV.nm a q with
          | none => exact absurd hl h1
          | some x => have h2 := (H0.out.2.2.2.2.2.1 x (look_name hl).2).2.2.2; rw [← (look_name hl).1]; exact h2
        · cases hl : look TV.nm b q with
          | none => exact absurd hl h1
          | some x => have h2 := (H0.out.2.2.2.1 x (look_name hl).2).2.2.2; rw [← (look_name hl).1]; exact h2, by
        have := HX.out.2.2.2.2.2.2.2.1
        unfold TV.Small at this ⊢
        rw [e]; exact this⟩
      have HKEY := Lib.hid key
      clear key

      cases hb : (look TV.nm b q).isSome with
      | false =>
        as_aux_lemma =>
        rw [hb] at f2
        obtain ⟨v', w', hrun, hol', hmm⟩ := push_chg (HX.out.2.2.2.1.mod HX.out.2.2.2.2.2.2.1 (fun _ _ _ f => f)) (x := ⟨false, q, zTV⟩) (zTV_rows _ _) 23 (by have := HX.out.2.2.1; omega) (by have := HX.out.2.2.2.2.2.1.size; omega)
        have c1 := HD1.out.1
        rw [HD1.out.2] at c1
        have c2 := cgSlice_run (Cg.mk false q zTV).cells.toArray (by simp [cg_len]) W
        obtain ⟨CC, hCC⟩ : ∃ CC, CC = (Cg.mk false q zTV).cells.toArray := ⟨_, rfl⟩
        rw [← hCC] at c1 c2 hrun
        have H9 := Lib.hid (And.intro hol' (And.intro hmm hb))
        clear hol' hmm hb hCC
        go_wp2_with (at_builtin; refine Lib.wpList_append_run _ (by rfl) _ _ _ _ (by rfl) _ _ (by rfl) (by rfl) _ _ hrun ?_)
        have h5 := (HX.out.2.2.2.2.2.1.trans (Mod.refl No W))
        have h9 := (HX.out.2.2.2.1.mod (HX.out.2.2.2.2.2.2.1.trans (Mod.refl No W)) (fun _ _ _ f => f)).quiet h5 H9.out.2.1
        refine ⟨⟨k + 1, acc ++ [⟨false, q, zTV⟩], by go_num, by omega, ?_, by have := HX.out.2.2.1; simp; omega, H9.out.1, ?_, h9⟩, by simp [intOf]; omega⟩
        · rw [difs_step HX.out.1, List.map_append, HX.out.2.1, lookT, lookT]
          have h1 := tX_none H9.out.2.2
          rw [h1]
          have h2 : (look TV.nm a q).isSome = true := by
            rcases HQ.out with h3 | h3
            · cases hl : look TV.nm a q with
              | none => exact absurd hl h3
              | some x => rfl
            · have h4 := H9.out.2.2
              cases hl : look TV.nm b q with
              | none => exact absurd hl h3
              | some x => rw [hl] at h4; cases h4
          rw [tX_some h2]
          simp [dif, Cg.chg, zTV]
        · intro z hz
          rcases List.mem_append.1 hz with hz | hz
          · exact HX.out.2.2.2.2.1 z hz
          · obtain rfl : z = ⟨false, q, zTV⟩ := by simpa using hz
            have h1 := HKEY.out (tX b q) true rfl rfl
            exact ⟨h1.1, zTV_small⟩

      | true =>
        rw [hb] at f2
        cases ha : (look TV.nm a q).isSome with
        | false =>
          as_aux_lemma =>
          rw [ha] at f1
          have hV7 := Mod.refl No W
          have HV := Lib.hid (And.intro ha hb)
          clear ha hb
          go_wp2_with (first
            | (go_at_call 23; refine (HCP2.out _ hV7).mono ?_; rintro e w8 ⟨y, rfl, hyt, hyr, hm8⟩;
                       have hm7 : Mod No w6 w8 := (HX.out.2.2.2.2.2.1.trans hV7).trans hm8;
                       have hol8 : OL shChg 47 w8 w6.heap.size _ acc := HX.out.2.2.2.1.mod ((HX.out.2.2.2.2.2.2.1.trans hV7).trans hm8) (fun _ _ _ f => f);
                       obtain ⟨v', w', hrun, hol', hmm⟩ := push_chg hol8 (x := ⟨true, q, y⟩) (hyr.lt (fun j _ hj => ⟨by have hj' : _ ≤ j := hj; have h1 := HX.out.2.2.2.2.2.1.size; have h2 := hV7.size; omega, fun f => by have hj' : _ ≤ j := hj; have h1 := (HX.out.2.2.2.1.block f).2; have h2 := HX.out.2.2.2.2.2.2.1.size; have h3 := hV7.size; omega⟩)) 23 (by have := HX.out.2.2.1; omega) (by have := hm7.size; omega);
                       have c1 := cgB3_run true (str q) y.cells.toArray rfl w8; rw [show Value.string (str q) = K from HX.out.2.2.2.2.2.2.2.2.symm] at c1;
                       rw [show #[.bool true, K] ++ y.cells.toArray = (Cg.mk true q y).cells.toArray by rw [cg_cells, HX.out.2.2.2.2.2.2.2.2]; simp [tKey]] at c1;
                       have c2 := cgSlice_run (Cg.mk true q y).cells.toArray (by simp [cg_len]) w8;
                       obtain ⟨CC, hCC⟩ : ∃ CC, CC = (Cg.mk true q y).cells.toArray := ⟨_, rfl⟩; rw [← hCC] at c1 c2 hrun;
                       obtain ⟨CY, hCY⟩ : ∃ CY, CY = y.cells.toArray := ⟨_, rfl⟩; rw [← hCY] at c1 ⊢;
                       have H9 := Lib.hid (And.intro hol' (And.intro hmm (And.intro hm8 hyt))); clear hyt hyr hm8 hm7 hol8 hol' hmm hCC hCY)
            | (at_builtin; refine Lib.wpList_append_run _ (by rfl) _ _ _ _ (by rfl) _ _ (by rfl) (by rfl) _ _ hrun ?_))
          have h5 := (HX.out.2.2.2.2.2.1.trans H9.out.2.2.1)
          have h9 := (HX.out.2.2.2.1.mod (HX.out.2.2.2.2.2.2.1.trans H9.out.2.2.1) (fun _ _ _ f => f)).quiet h5 H9.out.2.1
          refine ⟨⟨k + 1, acc ++ [⟨true, q, y⟩], by go_num, by omega, ?_, by have := HX.out.2.2.1; simp; omega, H9.out.1, ?_, h9⟩, by simp [intOf]; omega⟩
          · rw [difs_step HX.out.1, List.map_append, HX.out.2.1, lookT, lookT]
            rw [tX_none HV.out.1, tX_some HV.out.2, H9.out.2.2.2.symm]
            simp [dif, Cg.chg]
          · intro z hz
            rcases List.mem_append.1 hz with hz | hz
            · exact HX.out.2.2.2.2.1 z hz
            · obtain rfl : z = ⟨true, q, y⟩ := by simpa using hz
              exact HKEY.out y true H9.out.2.2.2 rfl

        | true =>
          rw [ha] at f1
          have HV := Lib.hid (And.intro ha hb)
          clear ha hb
          cases hd : decide ((tX a q).t = (tX b q).t) with
          | true =>
            as_aux_lemma =>
            have hsame := HSM.out
            rw [hd] at hsame
            have HSM := Lib.hid hsame
            have HD := Lib.hid hd
            clear hsame hd
            go_wp2_with (go_at_call 32; refine HSM.out.mono ?_; rintro e w7 ⟨rfl, hV7⟩; have H7 := Lib.hid hV7; clear hV7)
            refine ⟨⟨k + 1, acc, by go_num, by omega, ?_, by have := HX.out.2.2.1; omega, HX.out.2.2.2.1.mod (HX.out.2.2.2.2.2.2.1.trans H7.out) (fun _ _ _ f => f), HX.out.2.2.2.2.1, HX.out.2.2.2.2.2.1.trans H7.out⟩, by simp [intOf]; omega⟩
            have h1 : (tX a q).t = (tX b q).t := by simpa using HD.out
            rw [difs_step HX.out.1, HX.out.2.1, lookT, lookT, tX_some HV.out.1, tX_some HV.out.2, h1]
            simp [dif]
          | false =>
            as_aux_lemma =>
            have hsame := HSM.out
            rw [hd] at hsame
            have HSM := Lib.hid hsame
            have HD := Lib.hid hd
            clear hsame hd
            go_wp2_with (first
              | (go_at_call 32; refine HSM.out.mono ?_; rintro e w7 ⟨rfl, hV7⟩; have l3 := HLD.out w7 hV7)
              | (go_at_call 23; refine (HCP2.out _ hV7).mono ?_; rintro e w8 ⟨y, rfl, hyt, hyr, hm8⟩;
                       have hm7 : Mod No w6 w8 := (HX.out.2.2.2.2.2.1.trans hV7).trans hm8;
                       have hol8 : OL shChg 47 w8 w6.heap.size _ acc := HX.out.2.2.2.1.mod ((HX.out.2.2.2.2.2.2.1.trans hV7).trans hm8) (fun _ _ _ f => f);
                       obtain ⟨v', w', hrun, hol', hmm⟩ := push_chg hol8 (x := ⟨true, q, y⟩) (hyr.lt (fun j _ hj => ⟨by have hj' : _ ≤ j := hj; have h1 := HX.out.2.2.2.2.2.1.size; have h2 := hV7.size; omega, fun f => by have hj' : _ ≤ j := hj; have h1 := (HX.out.2.2.2.1.block f).2; have h2 := HX.out.2.2.2.2.2.2.1.size; have h3 := hV7.size; omega⟩)) 23 (by have := HX.out.2.2.1; omega) (by have := hm7.size; omega);
                       have c1 := cgB3_run true (str q) y.cells.toArray rfl w8; rw [show Value.string (str q) = K from HX.out.2.2.2.2.2.2.2.2.symm] at c1;
                       rw [show #[.bool true, K] ++ y.cells.toArray = (Cg.mk true q y).cells.toArray by rw [cg_cells, HX.out.2.2.2.2.2.2.2.2]; simp [tKey]] at c1;
                       have c2 := cgSlice_run (Cg.mk true q y).cells.toArray (by simp [cg_len]) w8;
                       obtain ⟨CC, hCC⟩ : ∃ CC, CC = (Cg.mk true q y).cells.toArray := ⟨_, rfl⟩; rw [← hCC] at c1 c2 hrun;
                       obtain ⟨CY, hCY⟩ : ∃ CY, CY = y.cells.toArray := ⟨_, rfl⟩; rw [← hCY] at c1 ⊢;
                       have H9 := Lib.hid (And.intro hol' (And.intro hmm (And.intro hm8 hyt))); clear hyt hyr hm8 hm7 hol8 hol' hmm hCC hCY)
              | (at_builtin; refine Lib.wpList_append_run _ (by rfl) _ _ _ _ (by rfl) _ _ (by rfl) (by rfl) _ _ hrun ?_))
            have h5 := (HX.out.2.2.2.2.2.1.trans (hV7.trans H9.out.2.2.1))
            have h9 := (HX.out.2.2.2.1.mod (HX.out.2.2.2.2.2.2.1.trans (hV7.trans H9.out.2.2.1)) (fun _ _ _ f => f)).quiet h5 H9.out.2.1
            refine ⟨⟨k + 1, acc ++ [⟨true, q, y⟩], by go_num, by omega, ?_, by have := HX.out.2.2.1; simp; omega, H9.out.1, ?_, h9⟩, by simp [intOf]; omega⟩
            · rw [difs_step HX.out.1, List.map_append, HX.out.2.1, lookT, lookT]
              rw [tX_some HV.out.1, tX_some HV.out.2, H9.out.2.2.2.symm]
              have h1 : ¬ (tX a q).t = y.t := by rw [H9.out.2.2.2]; simpa using HD.out
              simp [dif, Cg.chg, h1]
            · intro z hz
              rcases List.mem_append.1 hz with hz | hz
              · exact HX.out.2.2.2.2.1 z hz
              · obtain rfl : z = ⟨true, q, y⟩ := by simpa using hz
                exact HKEY.out y true H9.out.2.2.2 rfl

    · have hkm : k = m := by omega
      have HA := Lib.hid (And.intro hacc (And.intro hol (And.intro hM (And.intro hal hsc))))
      clear hacc hol hM hal hsc
      subst hkm
      go_wp2
      go_ret
      have h56 := H6.out.2
      refine ⟨_, rfl, acc, HA.out.2.1.lower (by have h1 := H5.out.2.2.1.size; have h2 := h56.size; omega), ?_, HA.out.2.2.2.2, by have h1 := HA.out.2.2.2.1; have h2 := H5.out.2.2.2.2.2.2.1; have h3 := H5.out.2.2.2.2.2.2.2.1; omega, (H5.out.2.2.1.trans h56).trans HA.out.2.2.1⟩
      rw [HA.out.1, List.take_of_length_le (by have h1 := H5.out.2.2.2.2.1; have h3 := H5.out.2.2.2.2.2.2.2.1; omega), H5.out.2.2.2.2.2.1]
      refine (dff_eq H5.out.2.2.2.2.2.2.2.2 (fun n => ?_)).symm
      rw [H5.out.2.2.2.1, lookT, lookT]
      simp
end

section
open Go.RowKit
set_option linter.unusedVariables false
attribute [local go_sem ↓] Go.wp_at_zero Go.wp_at_succ
attribute [local go_sem ↓] store_fold alloc_fold load_fold slice_op_fold ten_zero_fold
theorem less_str (a b : Nm) : Op.bytesLess (str a).toList (str b).toList = decide (a < b) := by
  rw [bytesLess_eq, ByteArray.toList_eq, ByteArray.toList_eq]
  rfl
theorem grab_w {P : Program} {c : Code} {Q : Exit → Act → World → Prop} {a : Act} {W : World} (h : ∀ w0, w0 = W → Code.wp P c Q a w0) : Code.wp P c Q a W := h _ rfl
/-! ### append onto a full row: where the new one lies -/
section
variable {P : Program}
theorem run_append_full2 {S S' : Nat → Prop} (w : World) (t ty e : TypeId) (i : TypeInfo) (z : Value) (size bytes : Nat) (ht : P.underlying t = some (.slice e)) (hi : P.info? e = some i) (hz : i.zero = some z)
    (hsize : i.size = size) (hby : i.bytes = bytes) (hsz : 0 < size) (A : Option Addr) (n : Nat) (xs : List Value) (hx : RowAt S w A xs) (hxl : xs.length = n * size)
    (A2 : Option Addr) (m c2 : Nat) (news : List Value) (hr : RowAt S' w A2 news) (hl : news.length = m * size) (h1 : ∀ u ∈ news, u.oneCell' = true)
    (h63 : n + m ≤ maxLen) (hbytes : (n + m) * bytes ≤ 140737488355328) :
    ∃ A' c' w', (Builtin.append_ #[t, t] ty #[.slice A n n, .slice A2 m c2]).run P w = .ok (.slice A' (n + m) c') w' ∧ Mod No w w' ∧ n + m ≤ c' ∧
      ((m = 0 ∧ w' = w ∧ A' = A) ∨ ∃ cur : Array Value, A' = some ⟨w.heap.size, 0, none⟩ ∧ w'.heap[w.heap.size]? = some (.cells cur e (0, 0)) ∧ ∀ (j : Nat) (u : Value), (xs ++ news)[j]? = some u → cur[j]? = some u) := by
  subst hsize hby
  have hsrc := src_row (P := P) ht c2 hr hl h1 hsz
  have hn0 : A = none → n = 0 := fun h => by
    subst h
    rcases hx with h0 | ⟨b, o, e, _⟩
    · subst h0
      rcases Nat.mul_eq_zero.1 hxl.symm with h | h
      · exact h
      · omega
    · cases e
  rcases Nat.eq_zero_or_pos m with rfl | hm
  · obtain rfl : news = [] := List.eq_nil_of_length_eq_zero (by simpa using hl)
    refine ⟨A, n, w, ?_, Mod.refl _ _, by omega, .inl ⟨rfl, rfl, rfl⟩⟩
    cases A with
    | none =>
      have := hn0 rfl
      subst this
      have h4 := hsrc.cells
      simp [Builtin.append_, run_underlying ht, sizeOf, typeInfo, hi, h4, Builtin.lenOf]
    | some b =>
      have h4 := hsrc.cells
      simp [Builtin.append_, run_underlying ht, sizeOf, typeInfo, hi, h4, storeCells, Builtin.lenOf]
  · have hold : (Builtin.firstCells i.size n (.slice A n n)).run P w.drew = .ok xs.toArray w.drew := by
      rcases hx with h0 | ⟨b, o, e, _, hc⟩
      · subst h0
        have hn : n = 0 := by
          rcases Nat.mul_eq_zero.1 hxl.symm with h | h
          · exact h
          · omega
        subst hn
        cases A with
        | none => exact run_firstCells_none w.drew _ 0 0 0
        | some ad => exact run_firstCells_some w.drew _ 0 ad 0 0 [] hxl (fun j u hj => by simp at hj)
      · subst e
        exact run_firstCells_some w.drew _ n _ n n xs hxl (fun j u hj => by rw [Addr.add_lit]; exact hc j u hj)
    have h := run_append_grow_src (P := P) w t t ty e i z ht hi hz A n n xs hold (.slice A2 m c2) m news hsrc (by omega) (by unfold maxLen at h63; omega) (growslice_fits (by omega) hbytes)
    refine ⟨_, _, _, h, (Mod.refl No w).drew.alloc _, grownCap_ge _ _ _ _, .inr ⟨_, rfl, at10 w.drew _, fun j u hj => ?_⟩⟩
    rw [Array.getElem?_append_left (by simpa using (List.getElem?_eq_some_iff.1 hj).1)]
    simpa using hj
end
/-! ### cells of one's own, which may be written -/
def Lies (base : Nat) (w : World) (A : Option Addr) (cs : List Value) : Prop :=
  cs = [] ∨ ∃ b o cur, A = some ⟨b, o, none⟩ ∧ base ≤ b ∧ w.heap[b]? = some (.cells cur 34 (0, 0)) ∧ ∀ j u, cs[j]? = some u → cur[o + j]? = some u
section
variable {base : Nat} {w w' : World} {A : Option Addr} {cs : List Value}
theorem Lies.row (h : Lies base w A cs) : RowAt (fun b => base ≤ b) w A cs := by
  rcases h with h | ⟨b, o, cur, e, hb, hg, hc⟩
  · exact .inl h
  · exact .inr ⟨b, o, e, hb, fun j u hj => (blk_cell hg _).trans (hc j u hj)⟩
theorem Lies.mod {F : Nat → Prop} (h : Lies base w A cs) (hm : Mod F w w') (hF : ∀ b, base ≤ b → ¬ F b) : Lies base w' A cs := by
  rcases h with h | ⟨b, o, cur, e, hb, hg, hc⟩
  · exact .inl h
  · exact .inr ⟨b, o, cur, e, hb, hm.obj hg (hF b hb), hc⟩
theorem Lies.take (h : Lies base w A cs) (k : Nat) : Lies base w A (cs.take k) := by
  rcases h with h | ⟨b, o, cur, e, hb, hg, hc⟩
  · subst h; simp; exact .inl rfl
  · refine .inr ⟨b, o, cur, e, hb, hg, fun j u hj => hc j u ?_⟩
    have hjk : j < k := by
      have := (List.getElem?_eq_some_iff.1 hj).1
      simp at this
      omega
    rwa [List.getElem?_take_of_lt hjk] at hj
end
theorem tv_len (l : List TV) : (tvCells l).length = l.length * 33 := flat_length TV.cells 33 TV.len l
theorem tv_take (l : List TV) (k : Nat) (hk : k ≤ l.length) : (tvCells l).take (k * 33) = tvCells (l.take k) := by
  have e1 : tvCells l = tvCells (l.take k) ++ tvCells (l.drop k) := by unfold tvCells; rw [← List.flatMap_append, List.take_append_drop]
  have e2 : (tvCells (l.take k)).length = k * 33 := by rw [tv_len, List.length_take]; omega
  rw [e1, List.take_append_of_le_length (by omega), List.take_of_length_le (by omega)]
theorem tv_drop (l : List TV) (k : Nat) (hk : k ≤ l.length) : (tvCells l).drop (k * 33) = tvCells (l.drop k) := by
  have e1 : tvCells l = tvCells (l.take k) ++ tvCells (l.drop k) := by unfold tvCells; rw [← List.flatMap_append, List.take_append_drop]
  have e2 : (tvCells (l.take k)).length = k * 33 := by rw [tv_len, List.length_take]; omega
  rw [e1, List.drop_append_of_le_length (by omega), List.drop_of_length_le (by omega), List.nil_append]
theorem tvs_one {S : Nat → Prop} {w : World} {l : List TV} (h : ∀ x ∈ l, x.Rows S w) : ∀ u ∈ tvCells l, u.oneCell' = true := by
  intro u hu
  obtain ⟨x, hx, hux⟩ := List.mem_flatMap.1 hu
  exact (Array.all_eq_true_iff_forall_mem.1 (TV.one (h x hx))) u (by simpa using hux)
theorem elemTen : Try.prog.elem 22 = 34 := by kernel_rfl
theorem sizeTen : ∀ W, (sizeOf 34).run Try.prog W = .ok 33 W := fun W => by kernel_rfl
/-- append onto a full list of tenants. -/
theorem app_tens {S : Nat → Prop} {base : Nat} {w : World} {X Y : List TV} {A A2 : Option Addr} {c2 : Nat} (hx : Lies base w A (tvCells X)) (hy : RowAt S w A2 (tvCells Y)) (h1 : ∀ u ∈ tvCells Y, u.oneCell' = true) (hl : X.length + Y.length ≤ 2000000) (hb : base ≤ w.heap.size) (ty : TypeId) :
    ∃ A' c' w', (Builtin.append_ #[22, 22] ty #[.slice A X.length X.length, .slice A2 Y.length c2]).run Try.prog w = .ok (.slice A' (X.length + Y.length) c') w' ∧ Mod No w w' ∧ X.length + Y.length ≤ c' ∧ Lies base w' A' (tvCells (X ++ Y)) := by
  obtain ⟨i0, hi, hz0, hz1, hz2⟩ := info_parts infoTen
  obtain ⟨A', c', w', h1, h2, h3, h4⟩ := run_append_full2 (P := Try.prog) w 22 ty 34 i0 _ 33 160 Try.underlying22 hi hz0 hz1 hz2 (by decide) A X.length _ hx.row (tv_len X) A2 Y.length c2 _ hy (tv_len Y) h1 (by unfold maxLen; omega) (by omega)
  refine ⟨A', c', w', h1, h2, h3, ?_⟩
  rcases h4 with ⟨hm, rfl, rfl⟩ | ⟨cur, rfl, hg, hc⟩
  · obtain rfl := List.eq_nil_of_length_eq_zero hm
    rw [List.append_nil]
    exact hx
  · refine .inr ⟨_, 0, cur, rfl, hb, hg, fun j u hj => ?_⟩
    rw [Nat.zero_add]
    refine hc j u ?_
    unfold tvCells at hj ⊢
    rwa [List.flatMap_append] at hj
/-- The reference's list: its cells its own, what they point to as it came. -/
structure RLs (S : Nat → Prop) (base : Nat) (w : World) (v : Value) (l : List TV) : Prop where
  blk : ∃ A c, v = .slice A l.length c ∧ l.length ≤ c ∧ Lies base w A (tvCells l)
  rows : ∀ x ∈ l, x.Rows S w
theorem RLs.nil (S : Nat → Prop) (base : Nat) (w : World) : RLs S base w (.slice none 0 0) [] := ⟨⟨none, 0, rfl, Nat.le_refl _, .inl rfl⟩, by simp⟩
theorem RLs.mod {S : Nat → Prop} {base : Nat} {w w' : World} {v : Value} {l : List TV} {F : Nat → Prop} (h : RLs S base w v l) (hm : Mod F w w') (hF : ∀ b, base ≤ b → ¬ F b) (hS : ∀ b, S b → ¬ F b) : RLs S base w' v l := by
  obtain ⟨A, c, e, hc, hl⟩ := h.blk
  exact ⟨⟨A, c, e, hc, hl.mod hm hF⟩, fun x hx => (h.rows x hx).keeps (hm.keeps (fun b _ hs => hS b hs))⟩
/-! ### Find -/
set_option maxRecDepth 100000 in
theorem rfind_ok {S : Nat → Prop} {w : World} {A : Option Addr} {c n : Nat} (l : List TV) (hA : TVl S w A l) (hn : n = l.length) (hl : l.length ≤ 1000000) (hS : ∀ b, w.heap.size ≤ b → ¬ S b) (q : Nm) :
    Calls Try.prog 11 #[.slice A n c, .string (str q)] w fun e w' => ∃ y : TV, e = .returned (.tuple #[.agg y.cells.toArray, .bool (look TV.nm l q).isSome]) ∧ y.t = (tX l q).t ∧ y.Rows S w' ∧ Mod No w w' := by
  have m1 : Mod No w (w.alloc (.cells zTen 34)) := (Mod.refl _ _).alloc _
  have hal := tenAlloc_run w
  obtain ⟨W, hW⟩ : ∃ W, W = w.alloc (.cells zTen 34) := ⟨_, rfl⟩
  have hblk : W.heap[w.heap.size]? = some (.cells zTen 34 (0, 0)) := by rw [hW]; exact at10 w _
  rw [← hW] at hal m1
  have hA1 := hA.keeps (m1.keeps (fun _ _ _ f => f))
  have htz := tenZero_run
  obtain ⟨K, hK⟩ : ∃ K, K = str q := ⟨_, rfl⟩
  obtain ⟨B, hB⟩ : ∃ B, B = (look TV.nm l q).isSome := ⟨_, rfl⟩
  rw [← hK, ← hB]
  have HQ := Lib.hid (And.intro hK (And.intro hB (And.intro hn (And.intro hl (And.intro m1 hblk)))))
  have HA := Lib.hid hA1
  have HS := Lib.hid hS
  have hn1 : n ≤ 1000000 := by omega
  clear hA hn hl hS hA1 m1 hblk hK hB hW
  go_enter Try.func11, Try.ntmps11
  go_wp2
  go_loop [6] (fun i => ∃ k : Nat, i = .int .i64 k ∧ k ≤ n ∧ ∀ p ∈ l.take k, p.nm ≠ q) (fun i => n - (intOf i).toNat)
  case atStart => exact ⟨0, rfl, by omega, by simp⟩
  case round =>
    obtain ⟨k, rfl, hk, hno⟩ := hrel
    have HNO := Lib.hid hno
    clear hno
    by_cases hlt : k < n
    · obtain ⟨z, hz⟩ : ∃ z, l[k]? = some z := ⟨_, List.getElem?_eq_getElem (by have := HQ.out.2.2.1; omega)⟩
      obtain ⟨b, o, rfl, _, hblt, hcell⟩ := HA.out.1.elem TV.cells 33 TV.len (by omega) hz
      have ce0 := hcell 0 (.string (str z.nm)) rfl
      rw [Nat.add_zero] at ce0
      have hld := tenLoad_mid W b (o + k * 33) z.cells z.len hcell
      have hzr := HA.out.2 z (List.mem_of_getElem? hz)
      obtain ⟨CZ, hCZ⟩ : ∃ CZ, CZ = z.cells.toArray := ⟨_, rfl⟩
      rw [← hCZ] at hld
      have hst := tenStore_run HQ.out.2.2.2.2.2 rfl (CA := CZ) (by rw [hCZ]; rfl) (by rw [hCZ]; exact TV.one hzr)
      obtain ⟨KZ, hKZ⟩ : ∃ KZ, KZ = str z.nm := ⟨_, rfl⟩
      rw [← hKZ] at ce0
      have HZ := Lib.hid (And.intro hz (And.intro hCZ (And.intro hKZ hzr)))
      have p1 : (0:Int) ≤ k := by omega
      have p2 : (k:Int) < n := by omega
      clear hz hcell hCZ hKZ hzr
      by_cases he : z.nm = q
      · as_aux_lemma =>
        have ht : (KZ.toList == K.toList) = true := by rw [HZ.out.2.2.1, HQ.out.1, str_beq]; simpa using he
        have HE := Lib.hid he
        clear he
        go_wp2
        refine bodyPost_ret (results_cell_tmp rfl _ _ w.heap.size 34 CZ (0, 0) _ rfl (setRow_heap _ _ _ _ _ _ HQ.out.2.2.2.2.2) Try.underlying34 rfl (by rw [tenSize, HZ.out.2.1]; rfl)) rfl ?_
        have hlk : look TV.nm l q = some z := by
          have h1 : l = l.take k ++ z :: l.drop (k + 1) := by
            obtain ⟨hlt, e⟩ := List.getElem?_eq_some_iff.1 HZ.out.1
            rw [← e, ← List.drop_eq_getElem_cons hlt, List.take_append_drop]
          rw [h1, look_append, look_none.2 HNO.out, Option.none_or, look_cons, if_pos HE.out]
        rw [HZ.out.2.1]
        refine ⟨z, by rw [HQ.out.2.1, hlk]; rfl, by unfold tX; rw [hlk]; rfl, ?_, ?_⟩
        · exact HZ.out.2.2.2.keeps ((Mod.setRow (F := fun j => j = w.heap.size) (Mod.refl _ _) (.inr rfl) _).keeps (fun b _ hs f => HS.out b (by omega) hs))
        · exact Mod.setRow HQ.out.2.2.2.2.1 (.inl (Nat.le_refl _)) _
      · as_aux_lemma =>
        have ht : (KZ.toList == K.toList) = false := by rw [HZ.out.2.2.1, HQ.out.1, str_beq]; simpa using he
        have HE := Lib.hid he
        clear he
        go_wp2
        go_round
        case rel =>
          refine ⟨k + 1, by go_num, by omega, ?_⟩
          obtain ⟨hlt, e⟩ := List.getElem?_eq_some_iff.1 HZ.out.1
          rw [List.take_succ_eq_append_getElem hlt, e]
          intro p hp
          rcases List.mem_append.1 hp with h1 | h1
          · exact HNO.out p h1
          · obtain rfl : p = z := by simpa using h1
            exact HE.out
        case measure => simp [intOf]; omega
    · have hkn : k = n := by omega
      subst hkn
      have hst := tenStore_run HQ.out.2.2.2.2.2 rfl (CA := zTen) rfl (TV.one (zTV_rows S W))
      go_wp2
      refine bodyPost_ret (results_cell_tmp rfl _ _ w.heap.size 34 zTen (0, 0) _ rfl (setRow_heap _ _ _ _ _ _ HQ.out.2.2.2.2.2) Try.underlying34 rfl (by rw [tenSize]; rfl)) rfl ?_
      have hno := HNO.out
      rw [List.take_of_length_le (by have := HQ.out.2.2.1; omega)] at hno
      have hlk : look TV.nm l q = none := look_none.2 hno
      refine ⟨zTV, by rw [HQ.out.2.1, hlk]; rfl, by unfold tX; rw [hlk]; rfl, zTV_rows _ _, ?_⟩
      exact Mod.setRow HQ.out.2.2.2.2.1 (.inl (Nat.le_refl _)) _
end

section
open Go.RowKit
set_option linter.unusedVariables false
attribute [local go_sem ↓] Go.wp_at_zero Go.wp_at_succ
attribute [local go_sem ↓] store_fold alloc_fold load_fold slice_op_fold ten_zero_fold
/-! ### the list, plain -/
theorem rset_new {x : TV} {again : Bool} : ∀ {l : List TV} {k : Nat}, (∀ p ∈ l.take k, p.nm < x.nm) → (∀ q, l[k]? = some q → ¬ q.nm < x.nm ∧ q.nm ≠ x.nm) → rset TV.nm x again l = l.take k ++ x :: l.drop k
  | [], k, _, _ => by simp [rset]
  | a :: l, 0, _, h2 => by
    unfold rset
    rw [if_neg (h2 a rfl).1, if_neg (h2 a rfl).2]
    rfl
  | a :: l, k + 1, h1, h2 => by
    unfold rset
    rw [if_pos (h1 a (by simp)), rset_new (k := k) (fun p hp => h1 p (by simp [hp])) (fun q hq => h2 q (by simpa using hq))]
    rfl
theorem rset_hit {x q : TV} {again : Bool} : ∀ {l : List TV} {k : Nat}, (∀ p ∈ l.take k, p.nm < x.nm) → l[k]? = some q → q.nm = x.nm → rset TV.nm x again l = if again then l.set k x else l
  | [], k, _, h, _ => by simp at h
  | a :: l, 0, _, h, he => by
    obtain rfl : a = q := by simpa using h
    unfold rset
    rw [if_neg (by rw [he]; exact nm_irr _), if_pos he]
    cases again <;> rfl
  | a :: l, k + 1, h1, h, he => by
    unfold rset
    rw [if_pos (h1 a (by simp)), rset_hit (k := k) (fun p hp => h1 p (by simp [hp])) (by simpa using h) he]
    cases again <;> rfl
theorem take_lt {x q : TV} {l : List TV} {k : Nat} (hq : l[k]? = some q) (h : ∀ p ∈ l.take k, p.nm < x.nm) (hl : q.nm < x.nm) : ∀ p ∈ l.take (k + 1), p.nm < x.nm := by
  obtain ⟨hlt, e⟩ := List.getElem?_eq_some_iff.1 hq
  rw [List.take_succ_eq_append_getElem hlt, e]
  intro p hp
  rcases List.mem_append.1 hp with h1 | h1
  · exact h p h1
  · simp at h1; subst h1; exact hl
/-! ### a tenant stored into a list -/
theorem ten_store_in {W : World} {b o : Nat} {cur CA : Array Value} {t : TypeId} (h : W.heap[b]? = some (.cells cur t (0, 0))) (ho : o + 33 ≤ cur.size) (hc : CA.size = 33) (h1 : CA.all (·.oneCell') = true) :
    (tenStore (.pointer (some ⟨b, o, none⟩)) (.agg CA)).run Try.prog W = .ok () (W.setRow b (splice cur.toList o CA.toList).toArray) := by
  have hl : CA.toList.length = 33 := by simpa using hc
  have := run_storeCells_at (P := Try.prog) b o t CA.toList 0 cur W h (by rw [hl]; omega) (fun v hv => (Array.all_eq_true_iff_forall_mem.1 h1) v (by simpa using hv))
  simp only [Nat.add_zero, hl] at this
  have hT := tenSize
  simp only [tenStore, Instr.storeAt, Instr.sureAddr, Sem.run_bind, Sem.run_pure, Result.andThen_ok, splice, hl]
  cases hq : Try.prog.info? 34 with
  | none => simp [hq] at hT
  | some i =>
    have hs : i.size = 33 := by simpa [hq] using hT
    simp [storeVar, sizeOf, typeInfo, hq, Value.cells, hs, hc, this]
theorem splice_get {cur ys : List Value} {s i : Nat} (hs : s + ys.length ≤ cur.length) : (splice cur s ys)[i]? = if i < s then cur[i]? else if i < s + ys.length then ys[i - s]? else cur[i]? := by
  unfold splice
  have hl : (cur.take s).length = s := by rw [List.length_take]; omega
  by_cases h1 : i < s
  · rw [if_pos h1, List.getElem?_append_left (by omega), List.getElem?_take_of_lt h1]
  · rw [if_neg h1, List.getElem?_append_right (by omega), hl]
    by_cases h2 : i < s + ys.length
    · rw [if_pos h2, List.getElem?_append_left (by omega)]
    · rw [if_neg h2, List.getElem?_append_right (by omega), List.getElem?_drop]
      congr 1
      omega
theorem tv_set (l : List TV) (k : Nat) (hk : k < l.length) (x : TV) (j : Nat) : (tvCells (l.set k x))[j]? = if j < k * 33 then (tvCells l)[j]? else if j < k * 33 + 33 then x.cells[j - k * 33]? else (tvCells l)[j]? := by
  have e1 : tvCells (l.set k x) = splice (tvCells l) (k * 33) x.cells := by
    unfold splice
    rw [tv_take l k (by omega), x.len, show k * 33 + 33 = (k + 1) * 33 by omega, tv_drop l (k + 1) (by omega), List.set_eq_take_append_cons_drop, if_pos hk]
    simp [tvCells]
  rw [e1, splice_get (by rw [tv_len, x.len]; omega), x.len]
theorem Lies.set {S : Nat → Prop} {base : Nat} {w : World} {A : Option Addr} {l : List TV} (h : Lies base w A (tvCells l)) {k : Nat} (hk : k < l.length) {x : TV} (hx : x.Rows S w) :
    ∃ b o R, A = some ⟨b, o, none⟩ ∧ base ≤ b ∧ ∀ V, Mod No w V → (tenStore (.pointer (some ⟨b, o + k * 33, none⟩)) (.agg x.cells.toArray)).run Try.prog V = .ok () (V.setRow b R) ∧ Lies base (V.setRow b R) A (tvCells (l.set k x)) := by
  rcases h with h | ⟨b, o, cur, rfl, hb, hg, hc⟩
  · have := tv_len l
    rw [h] at this
    simp at this
    omega
  · have hlen : o + l.length * 33 ≤ cur.size := by
      have h1 := tv_len l
      have h2 : (tvCells l)[l.length * 33 - 1]? = some ((tvCells l)[l.length * 33 - 1]'(by omega)) := List.getElem?_eq_getElem _
      have h3 := hc _ _ h2
      have := (Array.getElem?_eq_some_iff.1 h3).1
      omega
    refine ⟨b, o, (splice cur.toList (o + k * 33) x.cells).toArray, rfl, hb, fun V hV => ?_⟩
    have hg := hV.obj hg (fun f => f)
    have hrun := ten_store_in hg (o := o + k * 33) (CA := x.cells.toArray) (by omega) (by rfl) (TV.one hx)
    rw [show x.cells.toArray.toList = x.cells from rfl] at hrun
    refine ⟨hrun, .inr ⟨b, o, _, rfl, hb, setRow_heap _ _ _ _ _ _ hg, fun j u hj => ?_⟩⟩
    rw [tv_set l k hk] at hj
    rw [List.getElem?_toArray, splice_get (by rw [x.len]; simp; omega), x.len]
    by_cases h1 : j < k * 33
    · rw [if_pos h1] at hj
      rw [if_pos (by omega), Array.getElem?_toList]
      exact hc j u hj
    · rw [if_neg h1] at hj
      rw [if_neg (by omega)]
      by_cases h2 : j < k * 33 + 33
      · rw [if_pos h2] at hj
        rw [if_pos (by omega), show o + j - (o + k * 33) = j - k * 33 by omega]
        exact hj
      · rw [if_neg h2] at hj
        rw [if_neg (by omega), Array.getElem?_toList]
        exact hc j u hj
/-! ### set -/
set_option maxRecDepth 100000 in
set_option maxHeartbeats 2000000 in
theorem ref_set_ok {S : Nat → Prop} {base : Nat} {w : World} {v : Value} {l : List TV} (h : RLs S base w v l) (hb : base ≤ w.heap.size) (hS : ∀ b, base ≤ b → ¬ S b) (hl : l.length ≤ 1000000) (x : TV) (hx : x.Rows S w) (again : Bool) :
    Calls Try.prog 25 #[v, .agg x.cells.toArray, .bool again] w fun e w' => ∃ v', e = .returned v' ∧ RLs S base w' v' (rset TV.nm x again l) ∧ Mod (fun j => base ≤ j) w w' := by
  obtain ⟨A, c, rfl, hc, hlies⟩ := h.blk
  obtain ⟨CX, hCX⟩ : ∃ CX, CX = x.cells.toArray := ⟨_, rfl⟩
  have hbox := box_ten CX (by rw [hCX]; rfl) w
  obtain ⟨W, hW⟩ : ∃ W, W = w.alloc (.cells CX 34) := ⟨_, rfl⟩
  have hbl : W.heap[w.heap.size]? = some (.cells CX 34 (0, 0)) := by rw [hW]; exact at10 w _
  have m1 : Mod No w W := by rw [hW]; exact (Mod.refl _ _).alloc _
  have ct : W.cell? ⟨w.heap.size, 0, none⟩ = some (.string (str x.nm)) := (blk_cell hbl 0).trans (by rw [hCX]; rfl)
  have hlt4 := tenLoad_run hbl (by rw [hCX]; rfl)
  have hl1 := hlies.mod m1 (fun _ _ f => f)
  have hr1 : ∀ y ∈ l, y.Rows S W := fun y hy => (h.rows y hy).keeps (m1.keeps (fun _ _ _ f => f))
  have hx1 := hx.keeps (m1.keeps (fun _ _ _ f => f))
  have hbW : base ≤ W.heap.size := by have := m1.size; omega
  obtain ⟨KT, hKT⟩ : ∃ KT, KT = str x.nm := ⟨_, rfl⟩
  rw [← hKT] at ct
  rw [← hCX]
  obtain ⟨n, hn⟩ : ∃ n, n = l.length := ⟨_, rfl⟩
  rw [← hn] at hl hc
  rw [← hn]
  have HL := Lib.hid hl1
  have HR := Lib.hid hr1
  have HX := Lib.hid (And.intro hx1 (And.intro hCX (And.intro hKT (And.intro hn (And.intro hbW (And.intro m1 (And.intro hS (And.intro hb hbl))))))))
  clear hlies h hl1 hr1 hx hx1 hCX hKT hn hbW m1 hS hb hbl
  go_enter Try.func25, Try.ntmps25
  go_upto_block 0 with fail
  rw [← hW]
  clear hW hbox
  go_cut [7] (fun s7 wx => (∃ q, wx = W.drewN q) ∧ ∃ k : Nat, s7 = .int .i64 k ∧ k ≤ n ∧ (∀ p ∈ l.take k, p.nm < x.nm) ∧ ∀ q, l[k]? = some q → ¬ q.nm < x.nm)
  case first =>
    go_wp2_with fail
    go_loopw [7] (fun i wr => ∃ k : Nat, i = .int .i64 k ∧ k ≤ n ∧ (∀ p ∈ l.take k, p.nm < x.nm) ∧ ∃ q, wr = W.drewN q) (fun i _ => n - (intOf i).toNat)
    case atStart => exact ⟨0, rfl, by omega, by simp, 0, rfl⟩
    case round =>
      obtain ⟨k, rfl, hk, hall, dq, rfl⟩ := hrel
      have HALL := Lib.hid hall
      clear hall
      by_cases hkn : k < n
      · obtain ⟨q, hq⟩ : ∃ q, l[k]? = some q := ⟨_, List.getElem?_eq_getElem (by have := HX.out.2.2.2.1; omega)⟩
        obtain ⟨b, o, rfl, _, _, hcell⟩ := HL.out.row.elem TV.cells 33 TV.len (by omega) hq
        have ce0 := hcell 0 (.string (str q.nm)) rfl
        rw [Nat.add_zero] at ce0
        obtain ⟨KQ, hKQ⟩ : ∃ KQ, KQ = str q.nm := ⟨_, rfl⟩
        rw [← hKQ] at ce0
        have HQ := Lib.hid (And.intro hq hKQ)
        clear hcell hq hKQ
        have p1 : (0:Int) ≤ k := by omega
        have p2 : (k:Int) < n := by omega
        by_cases hlt : q.nm < x.nm
        · as_aux_lemma =>
          have t2 : Op.bytesLess KQ.toList KT.toList = true := by rw [HQ.out.2, HX.out.2.2.1, less_str]; simpa using hlt
          have HLT := Lib.hid hlt
          clear hlt
          go_wp2
          go_quiet (fail)
          go_wp2
          exact ⟨⟨k + 1, by go_num, by omega, take_lt HQ.out.1 HALL.out HLT.out, _, by first | rfl | exact World.drewN_drewN ..⟩, by simp [intOf]; omega⟩
        · as_aux_lemma =>
          have t2 : Op.bytesLess KQ.toList KT.toList = false := by rw [HQ.out.2, HX.out.2.2.1, less_str]; simpa using hlt
          have HLT := Lib.hid hlt
          clear hlt
          go_wp2_with fail
          go_quiet (fail)
          go_wp2_with fail
          go_meet
          refine ⟨⟨_, by first | rfl | exact World.drewN_drewN ..⟩, k, rfl, hk, HALL.out, fun q' hq' => ?_⟩
          rw [HQ.out.1] at hq'
          cases hq'
          exact HLT.out
      · as_aux_lemma =>
        have t0 : decide (k < n) = false := by simpa using hkn
        go_wp2_with fail
        go_quiet (fail)
        go_wp2_with fail
        go_meet
        exact ⟨⟨_, by first | rfl | exact World.drewN_drewN ..⟩, k, rfl, hk, HALL.out, fun q hq => absurd (List.getElem?_eq_some_iff.1 hq).1 (by have := HX.out.2.2.2.1; omega)⟩
  case rest =>
    obtain ⟨⟨dq, rfl⟩, k, rfl, hk, hall, hno⟩ := hcut
    have HALL := Lib.hid (And.intro hall hno)
    clear hall hno
    by_cases hhit : ∃ q, l[k]? = some q ∧ q.nm = x.nm
    · as_aux_lemma =>
      obtain ⟨q, hq, he⟩ := hhit
      have hkn : k < n := by have := (List.getElem?_eq_some_iff.1 hq).1; have := HX.out.2.2.2.1; omega
      obtain ⟨b, o, R, rfl, hbb, hset⟩ := HL.out.set (k := k) (by have := HX.out.2.2.2.1; omega) HX.out.1
      obtain ⟨b', o', e, _, _, hcell⟩ := HL.out.row.elem TV.cells 33 TV.len (by omega) hq
      cases e
      have ce0 := hcell 0 (.string (str q.nm)) rfl
      rw [Nat.add_zero] at ce0
      obtain ⟨KQ, hKQ⟩ : ∃ KQ, KQ = str q.nm := ⟨_, rfl⟩
      rw [← hKQ] at ce0
      have t2 : (KQ.toList == KT.toList) = true := by rw [hKQ, HX.out.2.2.1, str_beq]; simpa using he
      rw [← HX.out.2.1] at hset
      have HQ := Lib.hid (And.intro hq (And.intro he (And.intro hset hbb)))
      clear hcell hq hKQ hset hbb he
      have p1 : (0:Int) ≤ k := by omega
      have p2 : (k:Int) < n := by omega
      go_wp2_with fail
      go_quiet (fail)
      generalize hV : (W.drewN dq).drewN nq = V
      have mV : Mod No W V := by rw [← hV]; exact ((Mod.refl _ _).drewN _).drewN _
      clear hV
      obtain ⟨hst, hls⟩ := HQ.out.2.2.1 V mV
      have hld : (tenLoad (.pointer (some ⟨w.heap.size, 0, none⟩))).run Try.prog V = .ok (.agg CX) V := tenLoad_run (mV.obj HX.out.2.2.2.2.2.2.2.2 (fun f => f)) (by rw [HX.out.2.1]; rfl)
      have HV := Lib.hid (And.intro mV hls)
      clear mV hls
      cases again with
      | false =>
        clear hst hld
        go_wp2_with fail
        go_ret
        refine ⟨_, rfl, ⟨⟨some ⟨b, o, none⟩, c, ?_, ?_, ?_⟩, ?_⟩, ?_⟩
        all_goals (try rw [rset_hit HALL.out.1 HQ.out.1 HQ.out.2.1])
        · simp [HX.out.2.2.2.1]
        · have := HX.out.2.2.2.1; simp; omega
        · exact HL.out.mod HV.out.1 (fun _ _ f => f)
        · exact fun y hy => (HR.out y hy).keeps (HV.out.1.keeps (fun _ _ _ f => f))
        · exact (HX.out.2.2.2.2.2.1.trans HV.out.1).mono (fun _ f => f.elim)
      | true =>
        go_wp2_with fail
        go_ret
        have mV := HX.out.2.2.2.2.2.1.trans HV.out.1
        have mS : Mod (fun j => base ≤ j) V (V.setRow b R) := Mod.setRow (Mod.refl _ _) (.inr HQ.out.2.2.2) _
        refine ⟨_, rfl, ⟨⟨some ⟨b, o, none⟩, c, ?_, ?_, ?_⟩, ?_⟩, ?_⟩
        all_goals (try rw [rset_hit HALL.out.1 HQ.out.1 HQ.out.2.1])
        · simp [HX.out.2.2.2.1]
        · have := HX.out.2.2.2.1; simp; omega
        · exact HV.out.2
        · intro y hy
          have hy' : y.Rows S V := by
            rcases List.mem_or_eq_of_mem_set hy with h1 | h1
            · exact (HR.out y h1).keeps (HV.out.1.keeps (fun _ _ _ f => f))
            · rw [h1]; exact HX.out.1.keeps (HV.out.1.keeps (fun _ _ _ f => f))
          exact hy'.keeps (mS.keeps (fun j _ hs f => HX.out.2.2.2.2.2.2.1 j f hs))
        · exact (mV.mono (fun _ f => f.elim)).trans mS
    · have hmiss : ∀ q, l[k]? = some q → ¬ q.nm < x.nm ∧ q.nm ≠ x.nm := fun q hq => ⟨HALL.out.2 q hq, fun e => hhit ⟨q, hq, e⟩⟩
      have HMISS := Lib.hid hmiss
      clear hmiss hhit
      have hcn : n ≤ c := hc
      have hf := slice_full (P := Try.prog) 22 _ 33 Try.underlying22 elemTen sizeTen A n c k hk hcn
      obtain ⟨A2, hs2, hr2⟩ := slice_tail (P := Try.prog) 22 _ 33 Try.underlying22 elemTen sizeTen A n c k hk hcn
      have hsl : ∀ U : World, (tenSlice (.agg CX)).run Try.prog U = .ok (.slice (some ⟨U.heap.size, 0, none⟩) 1 1) (U.alloc (.cells CX 34)) := ten_build CX (by rw [HX.out.2.1]; rfl)
      have HR2 := Lib.hid hr2
      have hk0 : (0 : Int) ≤ (k : Int) := by omega
      have hk1 : (k : Int) ≤ (n : Int) := by omega
      have hk2 : (n : Int) ≤ (c : Int) := by omega
      have hk3 : (k : Int) ≤ (c : Int) := by omega
      clear hr2
      have hV0 : ∃ nq : Nat, True := ⟨0, trivial⟩
      by_cases hkn : k < n
      · obtain ⟨q, hq⟩ : ∃ q, l[k]? = some q := ⟨_, List.getElem?_eq_getElem (by have := HX.out.2.2.2.1; omega)⟩
        obtain ⟨b, o, rfl, _, _, hcell⟩ := HL.out.row.elem TV.cells 33 TV.len (by omega) hq
        have ce0 := hcell 0 (.string (str q.nm)) rfl
        rw [Nat.add_zero] at ce0
        obtain ⟨KQ, hKQ⟩ : ∃ KQ, KQ = str q.nm := ⟨_, rfl⟩
        rw [← hKQ] at ce0
        have t2 : (KQ.toList == KT.toList) = false := by rw [hKQ, HX.out.2.2.1, str_beq]; simpa using (HMISS.out q hq).2
        have p1 : (0:Int) ≤ k := by omega
        have p2 : (k:Int) < n := by omega
        clear hcell hq hKQ
        go_wp2_with fail
        go_quiet (fail)
        generalize hV : (W.drewN dq).drewN nq = V
        clear ce0 t2
        have mV : Mod No W V := by rw [← hV]; exact ((Mod.refl _ _).drewN _).drewN _
        clear hV
        have hbV := mV.obj HX.out.2.2.2.2.2.2.2.2 (fun f => f)
        have hld : (tenLoad (.pointer (some ⟨w.heap.size, 0, none⟩))).run Try.prog V = .ok (.agg CX) V := tenLoad_run hbV (by rw [HX.out.2.1]; rfl)
        have hldd : (tenLoad (.pointer (some ⟨w.heap.size, 0, none⟩))).run Try.prog V.drew = .ok (.agg CX) V.drew := tenLoad_run (W := V.drew) hbV (by rw [HX.out.2.1]; rfl)
        have hll := HX.out.2.2.2.1
        have hbV' : base ≤ V.heap.size := by have := mV.size; have := HX.out.2.2.2.2.1; omega
        have hLV := HL.out.mod mV (fun _ _ f => f)
        have hrA := hLV.take (k * 33)
        rw [tv_take l k (by omega)] at hrA
        have hrB : RowAt (fun b => base ≤ b) V A2 (tvCells (l.drop k)) := by rw [← tv_drop l k (by omega)]; exact HR2.out _ V _ (by rw [tv_len, hll]) hLV.row
        have e1 : (l.take k).length = k := by rw [List.length_take]; omega
        have e2 : (l.drop k).length = n - k := by rw [List.length_drop]; omega
        obtain ⟨W1, hW1⟩ : ∃ W1, W1 = (V.alloc (.cells CX 34)).drew := ⟨_, rfl⟩
        have mW1 : Mod No V W1 := by rw [hW1]; exact ((Mod.refl No V).alloc _).drew
        have hblk1 : W1.heap[V.heap.size]? = some (.cells CX 34 (0, 0)) := by rw [hW1]; exact at10d V _
        have hrX : Lies base W1 (some ⟨V.heap.size, 0, none⟩) (tvCells [x]) := .inr ⟨_, 0, CX, rfl, hbV', hblk1, fun j u hj => by rw [Nat.zero_add, HX.out.2.1]; simpa [tvCells] using hj⟩
        have hone : ∀ y ∈ l.drop k, y.Rows S W := fun y hy => HR.out y (List.mem_of_mem_drop hy)
        obtain ⟨A3, c3, w3, hrun3, hm3, hc3, hrow3⟩ := app_tens (c2 := c - k) hrX (hrB.keeps (mW1.keeps (fun _ _ _ f => f))) (tvs_one hone) (by rw [e2]; simp; omega) (by have := mW1.size; omega) 22
        have hmA : Mod No V w3 := mW1.trans hm3
        have hone' : ∀ y ∈ [x] ++ l.drop k, y.Rows S W := fun y hy => by
          rcases List.mem_append.1 hy with h1 | h1
          · obtain rfl : y = x := by simpa using h1
            exact HX.out.1
          · exact hone y h1
        obtain ⟨A4, c4, w4, hrun4, hm4, hc4, hrow4⟩ := app_tens (c2 := c3) (hrA.mod hmA (fun _ _ f => f)) hrow3.row (tvs_one hone') (by rw [e1, List.length_append, e2]; simp; omega) (by have := hmA.size; omega) 22
        have hm14 : Mod No V w4 := hmA.trans hm4
        have e5 : ([x] : List TV).length = 1 := rfl
        have e6 : ([x] ++ l.drop k).length = 1 + (n - k) := by rw [List.length_append, e2, e5]
        rw [e1, e6] at hrun4 hc4
        rw [e5, e2] at hrun3
        have hlen : (rset TV.nm x again l).length = k + (1 + (n - k)) := by rw [rset_new HALL.out.1 HMISS.out, List.length_append, List.length_cons, e1, e2]; omega
        have hfin : RLs S base w4 (.slice A4 (k + (1 + (n - k))) c4) (rset TV.nm x again l) := by
          refine ⟨⟨A4, c4, by rw [hlen], by rw [hlen]; exact hc4, ?_⟩, fun y hy => ?_⟩
          · rw [rset_new HALL.out.1 HMISS.out]; exact hrow4
          · rcases rset_mem hy with rfl | h1
            · exact HX.out.1.keeps ((mV.trans hm14).keeps (fun _ _ _ f => f))
            · exact (HR.out y h1).keeps ((mV.trans hm14).keeps (fun _ _ _ f => f))
        have hM : Mod (fun j => base ≤ j) w w4 := ((HX.out.2.2.2.2.2.1.trans mV).trans hm14).mono (fun _ f => f.elim)
        rw [hW1] at hrun3
        have HF := Lib.hid (And.intro hfin hM)
        have R3 := Lib.hid hrun3
        have R4 := Lib.hid hrun4
        clear mV hbV hll hbV' hLV hrA hrB e1 e2 mW1 hblk1 hrX hone hrun3 hm3 hc3 hrow3 hmA hone' hrun4 hm4 hc4 hrow4 hm14 e5 e6 hlen hfin hM hW1
        go_wp2_with fail
        go_region_law (first | (refine step_append_at (by with_reducible rfl) (by rfl) _ _ _ _ (by rfl) _ _ (by rfl) (by rfl) _ _ R3.out ?_) | (refine step_append_at (by with_reducible rfl) (by rfl) _ _ _ _ (by rfl) _ _ (by rfl) (by rfl) _ _ R4.out ?_))
        all_goals (go_wp2_with fail; go_ret; exact ⟨_, rfl, HF.out⟩)
      · have t0 : decide (k < n) = false := by simpa using hkn
        go_wp2_with fail
        go_quiet (fail)
        generalize hV : (W.drewN dq).drewN nq = V
        have mV : Mod No W V := by rw [← hV]; exact ((Mod.refl _ _).drewN _).drewN _
        clear hV
        have hbV := mV.obj HX.out.2.2.2.2.2.2.2.2 (fun f => f)
        have hld : (tenLoad (.pointer (some ⟨w.heap.size, 0, none⟩))).run Try.prog V = .ok (.agg CX) V := tenLoad_run hbV (by rw [HX.out.2.1]; rfl)
        have hldd : (tenLoad (.pointer (some ⟨w.heap.size, 0, none⟩))).run Try.prog V.drew = .ok (.agg CX) V.drew := tenLoad_run (W := V.drew) hbV (by rw [HX.out.2.1]; rfl)
        have hll := HX.out.2.2.2.1
        have hbV' : base ≤ V.heap.size := by have := mV.size; have := HX.out.2.2.2.2.1; omega
        have hLV := HL.out.mod mV (fun _ _ f => f)
        have hrA := hLV.take (k * 33)
        rw [tv_take l k (by omega)] at hrA
        have hrB : RowAt (fun b => base ≤ b) V A2 (tvCells (l.drop k)) := by rw [← tv_drop l k (by omega)]; exact HR2.out _ V _ (by rw [tv_len, hll]) hLV.row
        have e1 : (l.take k).length = k := by rw [List.length_take]; omega
        have e2 : (l.drop k).length = n - k := by rw [List.length_drop]; omega
        obtain ⟨W1, hW1⟩ : ∃ W1, W1 = (V.alloc (.cells CX 34)).drew := ⟨_, rfl⟩
        have mW1 : Mod No V W1 := by rw [hW1]; exact ((Mod.refl No V).alloc _).drew
        have hblk1 : W1.heap[V.heap.size]? = some (.cells CX 34 (0, 0)) := by rw [hW1]; exact at10d V _
        have hrX : Lies base W1 (some ⟨V.heap.size, 0, none⟩) (tvCells [x]) := .inr ⟨_, 0, CX, rfl, hbV', hblk1, fun j u hj => by rw [Nat.zero_add, HX.out.2.1]; simpa [tvCells] using hj⟩
        have hone : ∀ y ∈ l.drop k, y.Rows S W := fun y hy => HR.out y (List.mem_of_mem_drop hy)
        obtain ⟨A3, c3, w3, hrun3, hm3, hc3, hrow3⟩ := app_tens (c2 := c - k) hrX (hrB.keeps (mW1.keeps (fun _ _ _ f => f))) (tvs_one hone) (by rw [e2]; simp; omega) (by have := mW1.size; omega) 22
        have hmA : Mod No V w3 := mW1.trans hm3
        have hone' : ∀ y ∈ [x] ++ l.drop k, y.Rows S W := fun y hy => by
          rcases List.mem_append.1 hy with h1 | h1
          · obtain rfl : y = x := by simpa using h1
            exact HX.out.1
          · exact hone y h1
        obtain ⟨A4, c4, w4, hrun4, hm4, hc4, hrow4⟩ := app_tens (c2 := c3) (hrA.mod hmA (fun _ _ f => f)) hrow3.row (tvs_one hone') (by rw [e1, List.length_append, e2]; simp; omega) (by have := hmA.size; omega) 22
        have hm14 : Mod No V w4 := hmA.trans hm4
        have e5 : ([x] : List TV).length = 1 := rfl
        have e6 : ([x] ++ l.drop k).length = 1 + (n - k) := by rw [List.length_append, e2, e5]
        rw [e1, e6] at hrun4 hc4
        rw [e5, e2] at hrun3
        have hlen : (rset TV.nm x again l).length = k + (1 + (n - k)) := by rw [rset_new HALL.out.1 HMISS.out, List.length_append, List.length_cons, e1, e2]; omega
        have hfin : RLs S base w4 (.slice A4 (k + (1 + (n - k))) c4) (rset TV.nm x again l) := by
          refine ⟨⟨A4, c4, by rw [hlen], by rw [hlen]; exact hc4, ?_⟩, fun y hy => ?_⟩
          · rw [rset_new HALL.out.1 HMISS.out]; exact hrow4
          · rcases rset_mem hy with rfl | h1
            · exact HX.out.1.keeps ((mV.trans hm14).keeps (fun _ _ _ f => f))
            · exact (HR.out y h1).keeps ((mV.trans hm14).keeps (fun _ _ _ f => f))
        have hM : Mod (fun j => base ≤ j) w w4 := ((HX.out.2.2.2.2.2.1.trans mV).trans hm14).mono (fun _ f => f.elim)
        rw [hW1] at hrun3
        have HF := Lib.hid (And.intro hfin hM)
        have R3 := Lib.hid hrun3
        have R4 := Lib.hid hrun4
        clear mV hbV hll hbV' hLV hrA hrB e1 e2 mW1 hblk1 hrX hone hrun3 hm3 hc3 hrow3 hmA hone' hrun4 hm4 hc4 hrow4 hm14 e5 e6 hlen hfin hM hW1
        go_wp2_with fail
        go_region_law (first | (refine step_append_at (by with_reducible rfl) (by rfl) _ _ _ _ (by rfl) _ _ (by rfl) (by rfl) _ _ R3.out ?_) | (refine step_append_at (by with_reducible rfl) (by rfl) _ _ _ _ (by rfl) _ _ (by rfl) (by rfl) _ _ R4.out ?_))
        all_goals (go_wp2_with fail; go_ret; exact ⟨_, rfl, HF.out⟩)
end

section
open Go.RowKit
set_option linter.unusedVariables false
attribute [local go_sem ↓] Go.wp_at_zero Go.wp_at_succ
attribute [local go_sem ↓] store_fold alloc_fold load_fold slice_op_fold ten_zero_fold
/-! ### plain -/
theorem srt_map {α β : Type} {nm : α → Nm} {nb : β → Nm} {f : α → β} (hf : ∀ x, nb (f x) = nm x) (D : List α) : (srt nm D).map f = srt nb (D.map f) := by
  unfold srt
  rw [List.map_filterMap, List.map_map, show (nb ∘ f) = nm from funext hf]
  congr 1
  funext n
  exact (look_map (nm := nm) (nb := nb) (f := f) hf D n).symm
theorem applied_map (l : List TV) (cs : List Cg) : (applied TV.nm l (cs.map Cg.chv)).map (·.t) = applied Ten.name (l.map (·.t)) (cs.map Cg.chg) := by
  unfold applied
  rw [srt_map (nm := TV.nm) (nb := Ten.name) (f := (·.t)) (fun _ => rfl), msteps_map, firsts_map (nm := TV.nm) (nb := Ten.name) (f := (·.t)) (fun _ => rfl)]
theorem rfirsts_step {l : List TV} {k : Nat} {x : TV} (h : l[k]? = some x) : rfirsts TV.nm (l.take (k + 1)) = rset TV.nm x false (rfirsts TV.nm (l.take k)) := by
  obtain ⟨hl, e⟩ := List.getElem?_eq_some_iff.1 h
  unfold rfirsts
  rw [List.take_succ_eq_append_getElem hl, e, List.foldl_append]
  rfl
theorem rsteps_step {cs : List Cg} {k : Nat} {c : Cg} (h : cs[k]? = some c) (D : List TV) : ((cs.take (k + 1)).map Cg.chv).foldl (rstep TV.nm) D = rstep TV.nm (((cs.take k).map Cg.chv).foldl (rstep TV.nm) D) c.chv := by
  obtain ⟨hl, e⟩ := List.getElem?_eq_some_iff.1 h
  rw [List.take_succ_eq_append_getElem hl, e, List.map_append, List.foldl_append]
  rfl
theorem rstep_len (D : List TV) (c : Chg TV) : (rstep TV.nm D c).length ≤ D.length + 1 := by
  unfold rstep
  split
  · exact rset_len
  · have := mdel_len (nm := TV.nm) D c.name; omega
theorem rsteps_len (cs : List (Chg TV)) (D : List TV) : (cs.foldl (rstep TV.nm) D).length ≤ D.length + cs.length := by
  induction cs generalizing D with
  | nil => simp
  | cons c cs ih =>
    rw [List.foldl_cons, List.length_cons]
    have h1 := ih (rstep TV.nm D c)
    have h2 := rstep_len D c
    omega
theorem mdel_hit {L : List TV} (hs : Sd TV.nm L) {j : Nat} {p : TV} {q : Nm} (hp : L[j]? = some p) (he : p.nm = q) : mdel TV.nm L q = L.take j ++ L.drop (j + 1) := by
  obtain ⟨hlt, e⟩ := List.getElem?_eq_some_iff.1 hp
  have h1 : L = L.take j ++ p :: L.drop (j + 1) := by rw [← e, ← List.drop_eq_getElem_cons hlt, List.take_append_drop]
  have hs' : Sd TV.nm (L.take j ++ p :: L.drop (j + 1)) := by rw [← h1]; exact hs
  obtain ⟨_, h2, h3⟩ := List.pairwise_append.1 hs'
  obtain ⟨h4, _⟩ := List.pairwise_cons.1 h2
  have k1 : (L.take j).filter (fun y => decide (TV.nm y ≠ q)) = L.take j := List.filter_eq_self.2 (fun y hy => by
    have := nm_ne (h3 y hy p (by simp))
    rw [he] at this
    simpa using this)
  have k2 : (L.drop (j + 1)).filter (fun y => decide (TV.nm y ≠ q)) = L.drop (j + 1) := List.filter_eq_self.2 (fun y hy => by
    have := nm_ne (h4 y hy)
    rw [he] at this
    simpa using fun e => this e.symm)
  unfold mdel
  conv => lhs; rw [h1]
  rw [List.filter_append, List.filter_cons, if_neg (by simp [he]), k1, k2]
theorem mdel_none {L : List TV} {q : Nm} (h : ∀ p ∈ L, p.nm ≠ q) : mdel TV.nm L q = L := List.filter_eq_self.2 (fun y hy => by simpa using h y hy)
theorem take_ne {q : Nm} {L : List TV} {j : Nat} {p : TV} (hp : L[j]? = some p) (h : ∀ y ∈ L.take j, y.nm ≠ q) (he : p.nm ≠ q) : ∀ y ∈ L.take (j + 1), y.nm ≠ q := by
  obtain ⟨hlt, e⟩ := List.getElem?_eq_some_iff.1 hp
  rw [List.take_succ_eq_append_getElem hlt, e]
  intro y hy
  rcases List.mem_append.1 hy with h1 | h1
  · exact h y h1
  · simp at h1; subst h1; exact he
/-! ### Apply -/
def tenAppend (x y : Value) : Sem Value := Builtin.append_ #[22, 22] 22 #[x, y]
theorem app_op_fold (ρ : Operand → Value) (x y : Operand) (dst : Option Tmp) (pos : String) (after : Array Edge) (g : Option (Nat × Bool)) :
    execOp ρ { dst := dst, op := .call { callee := .builtin .append, args := #[x, y], argTypes := #[22, 22] }, type := 22, pos := pos, after := after, guard := g } = (do pure (Next.value (← tenAppend (ρ x) (ρ y))) : Sem Next) := by
  simp [execOp, resolve, invoke, builtin, tenAppend]
attribute [local go_sem ↓ high] app_op_fold
set_option maxRecDepth 100000 in
set_option maxHeartbeats 2000000 in
theorem ref_apply_ok {S : Nat → Prop} {w : World} {A C : Option Addr} {c n d m : Nat} (l : List TV) (cs : List Cg) (hA : TVl S w A l) (hn : n = l.length) (hl : l.length ≤ 100000) (hS : ∀ b, w.heap.size ≤ b → ¬ S b)
    (hC : CVl S w C cs) (hm : m = cs.length) (hcl : cs.length ≤ 100000) :
    Calls Try.prog 14 #[.slice A n c, .slice C m d] w fun e w' => ∃ v L, e = .returned v ∧ RLs S w.heap.size w' v L ∧ L.map (·.t) = applied Ten.name (l.map (·.t)) (cs.map Cg.chg) ∧ L.length ≤ l.length + cs.length ∧ Mod No w w' := by
  obtain ⟨B, hB⟩ : ∃ B, B = w.heap.size := ⟨_, rfl⟩
  rw [← hB]
  have hn1 : n ≤ 100000 := by omega
  have hm1 : m ≤ 100000 := by omega
  have H0 := Lib.hid (And.intro hA (And.intro hn (And.intro hS (And.intro hC (And.intro hm hB)))))
  have hset := fun (wr : World) (v : Value) (acc : List TV) (h : RLs S B wr v acc) (hM : Mod No w wr) (hl : acc.length ≤ 1000000) (x : TV) (hx : x.Rows S wr) (again : Bool) => ref_set_ok h (by have := hM.size; omega) (by rw [hB]; exact hS) hl x hx again
  have HSET := Lib.hid hset
  clear hA hn hl hS hC hm hcl hB hset
  go_enter Try.func14, Try.ntmps14
  go_upto_block 0 with fail
  go_cut [5, 6] (fun s5 s6 wx => ∃ acc, acc = rfirsts TV.nm l ∧ acc.length ≤ n ∧ RLs S B wx s5 acc ∧ Mod No w wx)
  case first =>
    go_wp2_with fail
    go_loopw [5, 6] (fun v i wr => ∃ (k : Nat) (acc : List TV), i = .int .i64 k ∧ k ≤ n ∧ acc = rfirsts TV.nm (l.take k) ∧ acc.length ≤ k ∧ RLs S B wr v acc ∧ Mod No w wr) (fun _ i _ => n - (intOf i).toNat)
    case atStart => exact ⟨0, [], rfl, by omega, by simp [rfirsts], by simp, RLs.nil _ _ _, Mod.refl _ _⟩
    case round =>
      obtain ⟨k, acc, rfl, hk, hacc, hal, hrl, hM⟩ := hrel
      by_cases hlt : k < n
      · as_aux_lemma =>
        obtain ⟨x, hx⟩ : ∃ x, l[k]? = some x := ⟨_, List.getElem?_eq_getElem (by have := H0.out.2.1; omega)⟩
        have hAk := H0.out.1.keeps (hM.keeps (fun _ _ _ f => f))
        obtain ⟨b, o, rfl, _, _, hcell⟩ := hAk.1.elem TV.cells 33 TV.len (by omega) hx
        have hld := tenLoad_mid _ b (o + k * 33) x.cells x.len hcell
        have hcall := HSET.out _ _ acc hrl hM (by omega) x (hAk.2 x (List.mem_of_getElem? hx)) false
        obtain ⟨CX, hCX⟩ : ∃ CX, CX = x.cells.toArray := ⟨_, rfl⟩
        rw [← hCX] at hld hcall
        have HCALL := Lib.hid hcall
        have p1 : (0:Int) ≤ k := by omega
        have p2 : (k:Int) < n := by omega
        have HX := Lib.hid (And.intro hx (And.intro hacc (And.intro hal hM)))
        clear hx hacc hal hM hAk hcell hcall hCX hrl
        go_wp2_with (go_at_call 25; refine HCALL.out.mono ?_; rintro e w2 ⟨v2, rfl, hr2, hm2⟩; have H2 := Lib.hid (And.intro hr2 hm2); clear hr2 hm2)
        refine ⟨⟨k + 1, _, by go_num, by omega, ?_, ?_, H2.out.1, HX.out.2.2.2.trans' H2.out.2 (fun i hi f => by have := H0.out.2.2.2.2.2; omega)⟩, by simp [intOf]; omega⟩
        · rw [rfirsts_step HX.out.1, HX.out.2.1]
        · have := rset_len (nm := TV.nm) (t := x) (again := false) (l := acc); have := HX.out.2.2.1; omega
      · as_aux_lemma =>
        have hkn : k = n := by omega
        have HX := Lib.hid (And.intro hacc (And.intro hal (And.intro hrl hM)))
        clear hacc hal hrl hM
        subst hkn
        go_wp2_with fail
        go_meet
        refine ⟨acc, ?_, HX.out.2.1, HX.out.2.2⟩
        rw [HX.out.1, List.take_of_length_le (by have := H0.out.2.1; omega)]
  case rest =>
    obtain ⟨acc0, hacc0, hal0, hrl0, hM0⟩ := hcut
    have HA0 := Lib.hid (And.intro hacc0 (And.intro hal0 (And.intro hrl0 hM0)))
    clear hacc0 hal0 hrl0 hM0
    go_wp2_with fail
    go_loopw [5, 7, 8] (fun v i s8 wr => ∃ (k : Nat) (acc : List TV), i = .int .i64 k ∧ k ≤ m ∧ acc = ((cs.take k).map Cg.chv).foldl (rstep TV.nm) (rfirsts TV.nm l) ∧ acc.length ≤ n + k ∧ RLs S B wr v acc ∧ Mod No w wr) (fun _ i _ _ => m - (intOf i).toNat)
    case atStart => exact ⟨0, acc0, rfl, by omega, HA0.out.1, HA0.out.2.1, HA0.out.2.2.1, HA0.out.2.2.2⟩
    case round =>
      obtain ⟨k, acc, rfl, hk, hacc, hal, hrl, hM⟩ := hrel
      by_cases hlt : k < m
      · obtain ⟨x, hx⟩ : ∃ x : Cg, cs[k]? = some x := ⟨_, List.getElem?_eq_getElem (by have := H0.out.2.2.2.2.1; omega)⟩
        have hC' := H0.out.2.2.2.1.keeps (hM.keeps (fun _ _ _ f => f))
        obtain ⟨a, o, rfl, has, _, hcell⟩ := RowAt.elem Cg.cells 35 cg_len (by decide) hC'.1 hx
        have hxr := hC'.2 x (List.mem_of_getElem? hx)
        have f4 := hcell 0 (.bool x.put) (by rw [cg_cells]; rfl)
        rw [Nat.add_zero] at f4
        have hsd : Sd TV.nm acc := by rw [hacc]; exact rsteps_sd _ (rfirsts_sd l)
        have hstep := rsteps_step hx (rfirsts TV.nm l)
        rw [← hacc] at hstep
        have hlen1 := rstep_len acc x.chv
        have p1 : (0:Int) ≤ k := by omega
        have p2 : (k:Int) < m := by omega
        cases hp : x.put with
        | true =>
          as_aux_lemma =>
          rw [hp] at f4
          have hld := tenLoad_mid _ a (o + k * 35 + 2) x.x.cells x.x.len (fun j v hj => by rw [Nat.add_assoc]; exact hcell (2 + j) v (by rw [cg_cells, Nat.add_comm 2 j]; simpa using hj))
          have hcall := HSET.out _ _ acc hrl hM (by omega) x.x hxr true
          obtain ⟨CX, hCX⟩ : ∃ CX, CX = x.x.cells.toArray := ⟨_, rfl⟩
          rw [← hCX] at hld hcall
          have hst2 : rstep TV.nm acc x.chv = rset TV.nm x.x true acc := by unfold rstep; simp [Cg.chv, hp]
          rw [hst2] at hlen1 hstep
          have HCALL := Lib.hid hcall
          have HX := Lib.hid (And.intro hstep (And.intro hlen1 (And.intro hal hM)))
          clear hx hacc hal hM hC' hcell hcall hCX hrl hxr hsd hstep hlen1 hp has hst2
          go_wp2_with (go_at_call 25; refine HCALL.out.mono ?_; rintro e w2 ⟨v2, rfl, hr2, hm2⟩; have H2 := Lib.hid (And.intro hr2 hm2); clear hr2 hm2)
          refine ⟨⟨k + 1, _, by go_num, by omega, HX.out.1.symm, ?_, H2.out.1, HX.out.2.2.2.trans' H2.out.2 (fun i hi f => by have := H0.out.2.2.2.2.2; omega)⟩, by simp [intOf]; omega⟩
          have := HX.out.2.1; have := HX.out.2.2.1; omega
        | false =>
          as_aux_lemma =>
          rw [hp] at f4
          have f5 := hcell 1 (.string (str x.name)) (by rw [cg_cells]; rfl)
          obtain ⟨KN, hKN⟩ : ∃ KN, KN = str x.name := ⟨_, rfl⟩
          rw [← hKN] at f5
          have hst2 : rstep TV.nm acc x.chv = mdel TV.nm acc x.name := by unfold rstep; simp [Cg.chv, hp]
          rw [hst2] at hlen1 hstep
          obtain ⟨A1, c1, e1, hc1, hlies⟩ := hrl.blk
          obtain ⟨n1, hn1'⟩ : ∃ n1, n1 = acc.length := ⟨_, rfl⟩
          rw [← hn1'] at e1 hc1
          have HX := Lib.hid (And.intro hstep (And.intro hlen1 (And.intro hal (And.intro hM (And.intro hrl (And.intro hsd (And.intro hlies (And.intro hKN (And.intro hn1' e1)))))))))
          have hn2 : n1 ≤ 1000000 := by omega
          clear hx hacc hal hM hC' hcell hKN hrl hxr hsd hstep hlen1 hp has hst2 hlies hn1'
          subst e1
          go_upto_block 3 with fail
          go_cut [5, 8] (fun s5 s8 wx => RLs S B wx s5 (mdel TV.nm acc x.name) ∧ Mod No wr wx)
          case first =>
            go_wp2_with fail
            go_loopw [5, 8] (fun s5 s8 w8 => ∃ j : Nat, s5 = .slice A1 n1 c1 ∧ s8 = .int .i64 j ∧ j ≤ n1 ∧ (∀ p ∈ acc.take j, p.nm ≠ x.name) ∧ ∃ q, w8 = wr.drewN q) (fun _ i _ => n1 - (intOf i).toNat)
            case atStart => exact ⟨0, rfl, rfl, by omega, by simp, 0, rfl⟩
            case round =>
              obtain ⟨j, rfl, rfl, hj, hno, dq, rfl⟩ := hrel
              have HNO := Lib.hid hno
              clear hno
              by_cases hjn : j < n1
              · obtain ⟨q, hq⟩ : ∃ q, acc[j]? = some q := ⟨_, List.getElem?_eq_getElem (by have := HX.out.2.2.2.2.2.2.2.2.1; omega)⟩
                obtain ⟨b, o2, rfl, _, _, hcell⟩ := HX.out.2.2.2.2.2.2.1.row.elem TV.cells 33 TV.len (by omega) hq
                have ce0 := hcell 0 (.string (str q.nm)) rfl
                rw [Nat.add_zero] at ce0
                obtain ⟨KQ, hKQ⟩ : ∃ KQ, KQ = str q.nm := ⟨_, rfl⟩
                rw [← hKQ] at ce0
                have p3 : (0:Int) ≤ j := by omega
                have p4 : (j:Int) < n1 := by omega
                have HQ := Lib.hid (And.intro hq hKQ)
                clear hcell hq hKQ
                by_cases he : q.nm = x.name
                · as_aux_lemma =>
                  have t2 : (KQ.toList == KN.toList) = true := by rw [HQ.out.2, HX.out.2.2.2.2.2.2.2.1, str_beq]; simpa using he
                  have HE := Lib.hid he
                  clear he
                  go_wp2_with fail
                  go_quiet (fail)
                  generalize hV : (wr.drewN dq).drewN nq = V
                  have mV : Mod No wr V := by rw [← hV]; exact ((Mod.refl _ _).drewN _).drewN _
                  clear hV ce0 t2
                  have hcn : n1 ≤ c1 := hc1
                  have hf := slice_full (P := Try.prog) 22 _ 33 Try.underlying22 elemTen sizeTen (some ⟨b, o2, none⟩) n1 c1 j hj hcn
                  obtain ⟨A2, hs2, hr2⟩ := slice_tail (P := Try.prog) 22 _ 33 Try.underlying22 elemTen sizeTen (some ⟨b, o2, none⟩) n1 c1 (j + 1) (by omega) hcn
                  have hll := HX.out.2.2.2.2.2.2.2.2.1
                  have hLV := HX.out.2.2.2.2.2.2.1.mod mV (fun _ _ f => f)
                  have hrA : Lies B V.drew _ _ := hLV.take (j * 33)
                  rw [tv_take acc j (by omega)] at hrA
                  have hrB : RowAt (fun b => B ≤ b) V.drew A2 (tvCells (acc.drop (j + 1))) := by rw [← tv_drop acc (j + 1) (by omega)]; exact hr2 _ V _ (by rw [tv_len, hll]) hLV.row
                  have e1 : (acc.take j).length = j := by rw [List.length_take]; omega
                  have e2 : (acc.drop (j + 1)).length = n1 - (j + 1) := by rw [List.length_drop]; omega
                  have hrows := HX.out.2.2.2.2.1.rows
                  have hone : ∀ y ∈ acc.drop (j + 1), y.Rows S wr := fun y hy => hrows y (List.mem_of_mem_drop hy)
                  have hBV : B ≤ V.drew.heap.size := by have h1 := mV.size; have h2 := HX.out.2.2.2.1.size; have h3 := H0.out.2.2.2.2.2; have h4 : V.drew.heap.size = V.heap.size := rfl; omega
                  obtain ⟨A', c', w1, hrun, hm1, hc1', hrow1⟩ := app_tens (c2 := c1 - (j + 1)) hrA hrB (tvs_one hone) (by rw [e1, e2]; omega) hBV 22
                  rw [e1, e2] at hrun hc1'
                  have hmm : Mod No wr w1 := mV.trans ((Mod.refl No V).drew.trans hm1)
                  have hdel := mdel_hit HX.out.2.2.2.2.2.1 HQ.out.1 HE.out
                  have hlen : (mdel TV.nm acc x.name).length = j + (n1 - (j + 1)) := by rw [hdel, List.length_append, e1, e2]
                  have hfin : RLs S B w1 (.slice A' (j + (n1 - (j + 1))) c') (mdel TV.nm acc x.name) := by
                    refine ⟨⟨A', c', by rw [hlen], by rw [hlen]; exact hc1', by rw [hdel]; exact hrow1⟩, fun y hy => ?_⟩
                    exact (hrows y (List.mem_filter.1 hy).1).keeps (hmm.keeps (fun _ _ _ f => f))
                  simp only [Int.natCast_add, Int.natCast_one] at hs2
                  have hk1 : IntKind.i64.wrap ((j : Int) + 1) = (j : Int) + 1 := IntWalk.i64_in _ (by omega)
                  have HF := Lib.hid (And.intro hfin hmm)
                  have hrun' : (tenAppend (.slice (some ⟨b, o2, none⟩) j j) (.slice A2 (n1 - (j + 1)) (c1 - (j + 1)))).run Try.prog V.drew = .ok (.slice A' (j + (n1 - (j + 1))) c') w1 := hrun
                  clear mV hr2 hll hLV hrA hrB e1 e2 hrows hone hBV hrun hm1 hc1' hrow1 hmm hdel hlen hfin
                  go_wp2_with fail
                  go_region
                  all_goals (go_wp2_with fail; go_meet; exact HF.out)
                · as_aux_lemma =>
                  have t2 : (KQ.toList == KN.toList) = false := by rw [HQ.out.2, HX.out.2.2.2.2.2.2.2.1, str_beq]; simpa using he
                  have HE := Lib.hid he
                  clear he
                  go_wp2_with fail
                  go_quiet (fail)
                  go_wp2_with fail
                  exact ⟨⟨j + 1, rfl, by go_num, by omega, take_ne HQ.out.1 HNO.out HE.out, _, by first | rfl | exact World.drewN_drewN ..⟩, by simp [intOf]; omega⟩
              · as_aux_lemma =>
                have hjn' : j = n1 := by omega
                subst hjn'
                go_wp2_with fail
                go_meet
                have hno := HNO.out
                rw [List.take_of_length_le (by have := HX.out.2.2.2.2.2.2.2.2.1; omega)] at hno
                have mV : Mod No wr (wr.drewN dq) := (Mod.refl _ _).drewN _
                rw [mdel_none hno]
                exact ⟨HX.out.2.2.2.2.1.mod mV (fun _ _ f => f) (fun _ _ f => f), mV⟩
          case rest =>
            obtain ⟨hr2, hm2⟩ := hcut
            have H2 := Lib.hid (And.intro hr2 hm2)
            clear hr2 hm2
            go_wp2_with fail
            refine ⟨⟨k + 1, _, by go_num, by omega, HX.out.1.symm, ?_, H2.out.1, HX.out.2.2.2.1.trans H2.out.2⟩, by simp [intOf]; omega⟩
            have := HX.out.2.1; have := HX.out.2.2.1; omega
      · as_aux_lemma =>
        have hkm : k = m := by omega
        have HX := Lib.hid (And.intro hacc (And.intro hal (And.intro hrl hM)))
        clear hacc hal hrl hM
        subst hkm
        go_wp2_with fail
        go_ret
        refine ⟨_, acc, rfl, HX.out.2.2.1, ?_, by have := HX.out.2.1; have := H0.out.2.1; have := H0.out.2.2.2.2.1; omega, HX.out.2.2.2⟩
        rw [HX.out.1, List.take_of_length_le (by have := H0.out.2.2.2.2.1; omega), rapplied_eq]
        exact applied_map l cs
end

end Go.Proofs.Ytkiikbajbikdeaa
