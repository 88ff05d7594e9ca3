/-
  The reference's table: Put, Drop.
-/
import Derived.Test.YtimbhkbdmcbodaaRtA
import Derived.BigRegion
import Derived.Deep.RegionLaw
import Derived.Laws.CopyOwn
namespace Go.Proofs.Ytimbhkbdmcbodaa
open Go.RowKit
set_option linter.unusedVariables false
set_option linter.unusedSimpArgs false
attribute [local go_sem ↓] Go.wp_at_zero Go.wp_at_succ
attribute [local go_sem ↓] ssLoad_fold ssStore_fold ssAlloc_fold ssBox_fold ssZero_fold

/-! ### rows of sessions -/
theorem sv_take (l : List SV) (k : Nat) (hk : k ≤ l.length) : (svCells l).take (k * 9) = svCells (l.take k) := by
  have e1 : svCells l = svCells (l.take k) ++ svCells (l.drop k) := by unfold svCells; rw [← List.flatMap_append, List.take_append_drop]
  have e2 : (svCells (l.take k)).length = k * 9 := by rw [sv_len, List.length_take]; omega
  rw [e1, List.take_append_of_le_length (by omega), List.take_of_length_le (by omega)]
theorem sv_drop (l : List SV) (k : Nat) (hk : k ≤ l.length) : (svCells l).drop (k * 9) = svCells (l.drop k) := by
  have e1 : svCells l = svCells (l.take k) ++ svCells (l.drop k) := by unfold svCells; rw [← List.flatMap_append, List.take_append_drop]
  have e2 : (svCells (l.take k)).length = k * 9 := by rw [sv_len, List.length_take]; omega
  rw [e1, List.drop_append_of_le_length (by omega), List.drop_of_length_le (by omega), List.nil_append]
theorem sv_one (l : List SV) : ∀ u ∈ svCells l, u.oneCell' = true := by
  intro u hu
  obtain ⟨x, hx, hux⟩ := List.mem_flatMap.1 hu
  exact (Array.all_eq_true_iff_forall_mem.1 (SV.one x)) u (by simpa using hux)
theorem ss_store_in {W : World} {b o : Nat} {cur CA : Array Value} {t : TypeId} (h : W.heap[b]? = some (.cells cur t (0, 0))) (ho : o + 9 ≤ cur.size) (hc : CA.size = 9) (h1 : CA.all (·.oneCell') = true) :
    (ssStore (.pointer (some ⟨b, o, none⟩)) (.agg CA)).run Try.prog W = .ok () (W.setRow b (splice cur.toList o CA.toList).toArray) := by
  have hl : CA.toList.length = 9 := by simpa using hc
  have := run_storeCells_at (P := Try.prog) b o t CA.toList 0 cur W h (by rw [hl]; omega) (fun v hv => (Array.all_eq_true_iff_forall_mem.1 h1) v (by simpa using hv))
  simp only [Nat.add_zero, hl] at this
  have hT := ssSize
  simp only [ssStore, Instr.storeAt, Instr.sureAddr, Sem.run_bind, Sem.run_pure, Result.andThen_ok, splice, hl]
  cases hq : Try.prog.info? 35 with
  | none => simp [hq] at hT
  | some i =>
    have hs : i.size = 9 := by simpa [hq] using hT
    simp [storeVar, sizeOf, typeInfo, hq, Value.cells, hs, hc, this]
theorem splice_get {cur ys : List Value} {s i : Nat} (hs : s + ys.length ≤ cur.length) : (splice cur s ys)[i]? = if i < s then cur[i]? else if i < s + ys.length then ys[i - s]? else cur[i]? := by
  unfold splice
  have hl : (cur.take s).length = s := by rw [List.length_take]; omega
  by_cases h1 : i < s
  · rw [if_pos h1, List.getElem?_append_left (by omega), List.getElem?_take_of_lt h1]
  · rw [if_neg h1, List.getElem?_append_right (by omega), hl]
    by_cases h2 : i < s + ys.length
    · rw [if_pos h2, List.getElem?_append_left (by omega)]
    · rw [if_neg h2, List.getElem?_append_right (by omega), List.getElem?_drop]
      congr 1
      omega
theorem sv_set (l : List SV) (k : Nat) (hk : k < l.length) (x : SV) (j : Nat) : (svCells (l.set k x))[j]? = if j < k * 9 then (svCells l)[j]? else if j < k * 9 + 9 then x.cells[j - k * 9]? else (svCells l)[j]? := by
  have e1 : svCells (l.set k x) = splice (svCells l) (k * 9) x.cells := by
    unfold splice
    rw [sv_take l k (by omega), show x.cells.length = 9 from rfl, show k * 9 + 9 = (k + 1) * 9 by omega, sv_drop l (k + 1) (by omega), List.set_eq_take_append_cons_drop, if_pos hk]
    simp [svCells]
  rw [e1, splice_get (by rw [sv_len, show x.cells.length = 9 from rfl]; omega), show x.cells.length = 9 from rfl]
theorem LiesQ.set {Q : Nat → Prop} {w : World} {A : Option Addr} {l : List SV} (h : LiesQ Q w A (svCells l)) {k : Nat} (hk : k < l.length) (x : SV) :
    ∃ b o R, A = some ⟨b, o, none⟩ ∧ Q b ∧ b < w.heap.size ∧ ∀ V, w.heap[b]? = V.heap[b]? → (ssStore (.pointer (some ⟨b, o + k * 9, none⟩)) (.agg x.cells.toArray)).run Try.prog V = .ok () (V.setRow b R) ∧ LiesQ Q (V.setRow b R) A (svCells (l.set k x)) := by
  rcases h with h | ⟨b, o, cur, rfl, hb, hg, hc⟩
  · have := sv_len l
    rw [h] at this
    simp at this
    omega
  · have hlen : o + l.length * 9 ≤ cur.size := by
      have h1 := sv_len l
      have h2 : (svCells l)[l.length * 9 - 1]? = some ((svCells l)[l.length * 9 - 1]'(by omega)) := List.getElem?_eq_getElem _
      have h3 := hc _ _ h2
      have := (Array.getElem?_eq_some_iff.1 h3).1
      omega
    refine ⟨b, o, (splice cur.toList (o + k * 9) x.cells).toArray, rfl, hb, lt_of_block hg, fun V hV => ?_⟩
    have hg := hV ▸ hg
    have hrun := ss_store_in hg (o := o + k * 9) (CA := x.cells.toArray) (by omega) (by rfl) (SV.one x)
    rw [show x.cells.toArray.toList = x.cells from rfl] at hrun
    refine ⟨hrun, .inr ⟨b, o, _, rfl, hb, setRow_heap _ _ _ _ _ _ hg, fun j u hj => ?_⟩⟩
    rw [sv_set l k hk] at hj
    rw [List.getElem?_toArray, splice_get (by rw [show x.cells.length = 9 from rfl]; simp; omega), show x.cells.length = 9 from rfl]
    by_cases h1 : j < k * 9
    · rw [if_pos h1] at hj
      rw [if_pos (by omega), Array.getElem?_toList]
      exact hc j u hj
    · rw [if_neg h1] at hj
      rw [if_neg (by omega)]
      by_cases h2 : j < k * 9 + 9
      · rw [if_pos h2] at hj
        rw [if_pos (by omega), show o + j - (o + k * 9) = j - k * 9 by omega]
        exact hj
      · rw [if_neg h2] at hj
        rw [if_neg (by omega), Array.getElem?_toList]
        exact hc j u hj
/-- append onto nothing of a row of points. -/
theorem app_pts {S : Nat → Prop} {W : World} {A : Option Addr} {c : Nat} {l : List Point} (hx : RowAt S W A (ptCells l)) (hl : l.length ≤ 65536) (ty : TypeId) :
    ∃ A1 c1 W', (Builtin.append_ #[22, 22] ty #[.slice none 0 0, .slice A l.length c]).run Try.prog W = .ok (.slice A1 l.length c1) W' ∧ OwnP W.heap.size W' A1 c1 l ∧ Mod No W W' := by
  obtain ⟨i0, hi, hz0, hz1, hz2⟩ := info_parts infoPoint
  obtain ⟨v', w', h1, h2, h3, h4⟩ := run_append_row (P := Try.prog) W W.heap.size 22 ty 26 i0 _ 2 8 Try.underlying22 hi hz0 hz1 hz2 (by rfl) (by decide) (.slice none 0 0) 0 [] (World.ownsRow_nil _ _ _ _) A l.length c (ptCells l) hx (ptCells_length l) (by
    intro u hu
    obtain ⟨p, _, hp⟩ := List.mem_flatMap.1 hu
    simp only [Point.cells, List.mem_cons, List.not_mem_nil, or_false] at hp
    rcases hp with rfl | rfl <;> rfl) (by unfold maxLen; omega) (by omega) (Nat.le_refl _)
  obtain ⟨A1, c1, rfl, _, _⟩ := RowAt.of_owns h2
  rw [Nat.zero_add] at h1 h2
  exact ⟨A1, c1, w', h1, h2, Mod.grown (Mod.refl _ _) h3 (fun k hk => by cases hk)⟩

/-! ### Put -/
/-- What the reference's Put leaves. -/
def PutLeaves (U : Nat → Prop) (w : World) (rb : Nat) (M : List SV) (s : Sess) : Ending → World → Prop := fun e w' =>
  e = .returned (.bool ((M.map (·.s)).find? (fun x => x.key = s.key)).isSome) ∧ Mod U w w' ∧
    (((M.map (·.s)).find? (fun x => x.key = s.key) = none ∧ RTab U w' rb M) ∨
     ∃ U' k z A c, (∀ b, U' b → U b ∨ (w.heap.size ≤ b ∧ b < w'.heap.size)) ∧ M[k]? = some z ∧ z.s.key = s.key ∧ RTab U' w' rb (M.set k ⟨{ s with out := z.s.out }, A, c⟩))
set_option maxRecDepth 100000 in
theorem rput_ok {U S0 : Nat → Prop} {w : World} {rb : Nat} {M : List SV} (h : RTab U w rb M) (hl : M.length ≤ 1000000) (s : Sess) (A0 : Option Addr) (cc : Nat) (hx : RowAt S0 w A0 (ptCells s.peers)) (hpl : s.peers.length ≤ 65536) :
    Calls Try.prog 17 #[.pointer (some ⟨rb, 0, none⟩), s.val A0 cc] w (PutLeaves U w rb M s) := by
  obtain ⟨A, c, S, hb, hc, hSr, hSU, hrow, hpe⟩ := h.blk
  obtain ⟨n, hn⟩ : ∃ n, n = M.length := ⟨_, rfl⟩
  rw [← hn] at hb hl hc
  have hlt := lt_of_block hb
  obtain ⟨QQ, hQQ⟩ : ∃ QQ, QQ = PutLeaves U w rb M s := ⟨_, rfl⟩
  rw [← hQQ]
  have HM := Lib.hid (And.intro hpe (And.intro hn (And.intro hrow (And.intro hb (And.intro hx hQQ)))))
  have HH := Lib.hid (And.intro h (And.intro hpl (And.intro hc (And.intro hSr hSU))))
  clear hpe hrow hc hSr hSU h hb hn hQQ hx hpl
  have hbx : ∀ W : World, (ssBox (.agg (SV.mk s A0 cc).cells.toArray)).run Try.prog W = .ok (.pointer (some ⟨W.heap.size, 0, none⟩)) (W.alloc (.cells (SV.mk s A0 cc).cells.toArray 35)) := ssBox_run _ rfl
  obtain ⟨CS, hCS⟩ : ∃ CS, CS = (SV.mk s A0 cc).cells.toArray := ⟨_, rfl⟩
  rw [← hCS] at hbx
  have hsv : s.val A0 cc = .agg CS := by rw [hCS]; rfl
  rw [hsv]
  have HC := Lib.hid hCS
  clear hCS hsv
  go_enter Try.func17, Try.ntmps17
  go_upto_block 0 with fail
  refine grab_w fun W hW => ?_
  have m1 : Mod No w W := by rw [hW]; exact (Mod.refl _ _).alloc _
  have hq1 : W.heap[w.heap.size]? = some (.cells CS 35 (0, 0)) := by rw [hW]; exact at10 w _
  have c0 : W.cell? ⟨rb, 0, none⟩ = some (.slice A n c) := (blk_cell (m1.obj HM.out.2.2.2.1 (fun f => f)) 0).trans rfl
  have q0 : W.cell? ⟨w.heap.size, 0, none⟩ = some (.int .u8 s.key.proto) := (blk_cell hq1 0).trans (by rw [HC.out]; rfl)
  have q1 : W.cell? ⟨w.heap.size, 1, none⟩ = some (.int .u32 s.key.pt.ip) := (blk_cell hq1 1).trans (by rw [HC.out]; rfl)
  have q2 : W.cell? ⟨w.heap.size, 2, none⟩ = some (.int .u16 s.key.pt.port) := (blk_cell hq1 2).trans (by rw [HC.out]; rfl)
  have q3 : W.cell? ⟨w.heap.size, 3, none⟩ = some (.int .u32 s.out.ip) := (blk_cell hq1 3).trans (by rw [HC.out]; rfl)
  have q4 : W.cell? ⟨w.heap.size, 4, none⟩ = some (.int .u16 s.out.port) := (blk_cell hq1 4).trans (by rw [HC.out]; rfl)
  have q6 : W.cell? ⟨w.heap.size, 6, none⟩ = some (.slice A0 s.peers.length cc) := (blk_cell hq1 6).trans (by rw [HC.out]; rfl)
  have f3 := blk_free hq1 3
  have f4 := blk_free hq1 4
  have z1 := lt_of_block hq1
  have hrow := HM.out.2.2.1.mod m1 (fun _ _ f => f)
  have HW := Lib.hid (And.intro m1 (And.intro hrow hq1))
  clear hW hq1 m1 hrow hbx
  go_wp2
  go_loopw [5] (fun i wr => ∃ k : Nat, i = .int .i64 k ∧ k ≤ n ∧ (∀ p ∈ M.take k, p.s.key ≠ s.key) ∧ ∃ d, wr = W.drewN d) (fun i _ => n - (intOf i).toNat)
  case atStart => exact ⟨0, rfl, by omega, by simp, 0, rfl⟩
  case round =>
    obtain ⟨k, rfl, hk, hno, d, rfl⟩ := hrel
    have HNO := Lib.hid hno
    clear hno
    by_cases hkn : k < n
    · obtain ⟨z, hz⟩ : ∃ z, M[k]? = some z := ⟨_, List.getElem?_eq_getElem (by have := HM.out.2.1; omega)⟩
      obtain ⟨b, o, rfl, hQb, hblt, hcell⟩ := sv_at HW.out.2.1 hz
      have d0 := hcell 0 _ rfl
      have d1 := hcell 1 _ rfl
      have d2 := hcell 2 _ rfl
      have d3 := hcell 3 _ rfl
      have d4 := hcell 4 _ rfl
      rw [Nat.add_zero] at d0
      have p1 : (0:Int) ≤ k := by omega
      have p2 : (k:Int) < n := by omega
      have hpq := key_beq z.s.key s.key
      obtain ⟨t, ht⟩ : ∃ t, t = decide (z.s.key = s.key) := ⟨_, rfl⟩
      rw [← ht] at hpq
      have HZ := Lib.hid (And.intro hz (And.intro ht hQb))
      clear hcell hz ht hQb
      cases t with
      | true => as_aux_lemma =>
        have nb : b ≠ w.heap.size := by
          intro e
          have := HH.out.1.lt b HZ.out.2.2.1
          omega
        go_wp2_with fail
        go_quiet (fail)
        go_upto_region 6 with fail
        refine grab_w fun V hV => ?_
        obtain ⟨s', hs'⟩ : ∃ s', s' = { s with out := z.s.out } := ⟨_, rfl⟩
        have hqV : V.heap[w.heap.size]? = some (.cells (SV.mk s' A0 cc).cells.toArray 35 (0, 0)) := by
          rw [hV]
          refine (heap_setCell_row (heap_setCell_row (w := W.drewN (d + nq)) HW.out.2.2 _) _).trans ?_
          rw [HC.out, hs']
          rfl
        have mV : Mod No w V := by
          rw [hV]
          repeat (first | exact HW.out.1.drewN _ | refine Mod.setCell ?_ (.inl (by simp)) _)
        have cV0 : V.cell? ⟨rb, 0, none⟩ = some (.slice (some ⟨b, o, none⟩) n c) := (blk_cell (mV.obj HM.out.2.2.2.1 (fun f => f)) 0).trans rfl
        have cV6 : V.cell? ⟨w.heap.size, 6, none⟩ = some (.slice A0 s.peers.length cc) := (blk_cell hqV 6).trans (by rw [hs']; rfl)
        obtain ⟨A1, c1, W2, hrun, ho1, hm1⟩ := app_pts (c := cc) (HM.out.2.2.2.2.1.keeps (mV.keeps (fun _ _ _ f => f))) HH.out.2.1 22
        have hq2 := hm1.obj hqV (fun f => f)
        have d6 : W2.cell? ⟨w.heap.size, 6, none⟩ = some (.slice A0 s.peers.length cc) := (blk_cell hq2 6).trans (by rw [hs']; rfl)
        have f6 := blk_free hq2 6
        have zz2 : w.heap.size < W2.heap.size := lt_of_block hq2
        have HV := Lib.hid (And.intro hs' (And.intro mV (And.intro ho1 (And.intro hm1 hq2))))
        have HR := Lib.hid hrun
        have HVS := Lib.hid (lt_of_block hqV)
        clear hs' hqV mV hV hrun ho1 hm1 hq2 c0 q0 q1 q2 q3 q4 q6 f3 f4 d0 d1 d2 d3 d4
        go_upto_region 7 with (at_builtin; refine Lib.wpList_append_run _ (by rfl) _ _ _ _ (by rfl) _ _ (by rfl) (by rfl) _ _ HR.out ?_)
        refine grab_w fun X hX => ?_
        obtain ⟨x, hx⟩ : ∃ x : SV, x = ⟨s', A1, c1⟩ := ⟨_, rfl⟩
        have hqX : X.heap[w.heap.size]? = some (.cells x.cells.toArray 35 (0, 0)) := by
          rw [hX]
          refine (heap_setCell_row HV.out.2.2.2.2 _).trans ?_
          rw [hx, HV.out.1]
          rfl
        have m2 : Mod No w W2 := HV.out.2.1.trans HV.out.2.2.2.1
        have mX : Mod No w X := by
          rw [hX]
          exact Mod.setCell m2 (.inl (by simp)) _
        have cX : X.cell? ⟨rb, 0, none⟩ = some (.slice (some ⟨b, o, none⟩) n c) := (blk_cell (mX.obj HM.out.2.2.2.1 (fun f => f)) 0).trans rfl
        obtain ⟨b', o', R, e, _, hbw, hset⟩ := HM.out.2.2.1.set (k := k) (by have := HM.out.2.1; omega) x
        cases e
        have hbX := (mX.block b hbw (fun f => f)).symm
        obtain ⟨hst, _⟩ := hset X hbX
        obtain ⟨hstd, hls⟩ := hset X.drew hbX
        have hld : (ssLoad (.pointer (some ⟨w.heap.size, 0, none⟩))).run Try.prog X = .ok (.agg x.cells.toArray) X := ssLoad_run hqX rfl
        have hldd : (ssLoad (.pointer (some ⟨w.heap.size, 0, none⟩))).run Try.prog X.drew = .ok (.agg x.cells.toArray) X.drew := ssLoad_run (W := X.drew) hqX rfl
        obtain ⟨CX, hCX⟩ : ∃ CX, CX = x.cells.toArray := ⟨_, rfl⟩
        rw [← hCX] at hst hstd hld hldd
        have zX : w.heap.size < X.heap.size := lt_of_block hqX
        have HX := Lib.hid (And.intro hx (And.intro mX (And.intro hls (And.intro (show V.heap.size ≤ X.heap.size by rw [hX]; have := HV.out.2.2.2.1.size; simpa [World.setCell] using this) (show RowAt (fun j => V.heap.size ≤ j) X A1 (ptCells s'.peers) by
          rw [hX, HV.out.1]
          exact HV.out.2.2.1.row.keeps (Mod.keeps (F := fun j => j = w.heap.size) (Mod.setCell (F := fun j => j = w.heap.size) (p := ⟨w.heap.size, 6, none⟩) (Mod.refl _ W2) (.inr rfl) _) (fun j _ hj f => by
            have f' : j = w.heap.size := f
            have hj' : V.heap.size ≤ j := hj
            have hv := HVS.out
            omega))))))) 
        clear hCX hx hqX m2 mX hbX hls hset hX
        go_region
        all_goals
          go_wp2
          have hM := HM.out
          have hx := HX.out
          have hk' : z.s.key = s.key := by simpa using HZ.out.2.1
          have hf := find_skip (f := (·.key)) HNO.out HZ.out.1 hk'
          have hvs := HVS.out
          have hVX : V.heap.size ≤ X.heap.size := hx.2.2.2.1
          have mY : Mod (fun j => j = b) X (X.drew.setRow b R) := Mod.setRow (F := fun j => j = b) (Mod.refl _ X).drew (.inr rfl) _
          have mE : Mod (fun j => j = b) w (X.drew.setRow b R) := (hx.2.1.mono (fun _ f => f.elim)).trans mY
          have hsz : (X.drew.setRow b R).heap.size = X.heap.size := by simp [World.setRow]
          have hU := HZ.out.2.2
          rw [hM.2.2.2.2.2]
          show PutLeaves U w rb M s (.returned (.bool true)) _
          refine ⟨by rw [hf]; rfl, mE.mono (fun j f => by have f' : j = b := f; rw [f']; exact hU.1), .inr ⟨fun j => U j ∨ (w.heap.size ≤ j ∧ j < X.heap.size), k, z, A1, c1, fun j hj => by rw [hsz]; exact hj, HZ.out.1, hk', ?_⟩⟩
          rw [← HV.out.1, ← hx.1]
          have hlen : (M.set k x).length = n := by rw [List.length_set, hM.2.1]
          refine ⟨.inl HH.out.1.tb, fun j hj => by rw [hsz]; rcases hj with hj | hj; exact Nat.lt_of_lt_of_le (HH.out.1.lt j hj) hx.2.1.size; exact hj.2, ⟨some ⟨b, o, none⟩, c, fun j => S j ∨ (V.heap.size ≤ j ∧ j < X.heap.size), ?_, by rw [hlen]; exact HH.out.2.2.1, ?_, ?_, hx.2.2.1.mono ?_, ?_⟩, ?_⟩
          · rw [hlen]
            exact mE.obj hM.2.2.2.1 (fun f => hU.2.1 f.symm)
          · rintro (hj | hj)
            · exact HH.out.2.2.2.1 hj
            · omega
          · rintro j (hj | hj)
            · exact .inl (HH.out.2.2.2.2 j hj)
            · exact .inr (by omega)
          · rintro j _ ⟨h1, h2, h3⟩
            refine ⟨.inl h1, h2, ?_⟩
            rintro (hj | hj)
            · exact h3 hj
            · have := HH.out.1.lt j h1
              omega
          · intro y hy
            rcases List.mem_or_eq_of_mem_set hy with h1 | h1
            · exact ((hM.1 y h1).keeps (mE.keeps (fun j _ hs f => by have f' : j = b := f; rw [f'] at hs; exact hU.2.2 hs))).mono (fun j _ hs => .inl hs)
            · rw [h1, hx.1]
              have h5 := (hx.2.2.2.2.mono (S' := fun j => V.heap.size ≤ j ∧ j < X.heap.size) (fun j hj hs => ⟨hs, hj⟩)).keeps (mY.keeps (fun j _ hs f => by have f' : j = b := f; have := HH.out.1.lt b hU.1; omega))
              exact h5.mono (fun j _ hs => .inr hs)
          · intro y hy
            rcases List.mem_or_eq_of_mem_set hy with h1 | h1
            · exact HH.out.1.few y h1
            · rw [h1, hx.1, HV.out.1]
              exact HH.out.2.1
      | false => as_aux_lemma =>
        go_wp2_with fail
        go_quiet (fail)
        go_wp2
        have hk' : z.s.key ≠ s.key := by simpa using HZ.out.2.1
        exact ⟨⟨k + 1, by go_num, by omega, find_go (f := (·.key)) HNO.out HZ.out.1 hk', _, rfl⟩, by simp [intOf]; omega⟩
    · as_aux_lemma =>
      have hkn' : k = n := by omega
      subst hkn'
      go_wp2
      have hf := find_over (f := (·.key)) (q := s.key) HNO.out (by have := HM.out.2.1; omega)
      have mE : Mod No w (W.drewN d) := HW.out.1.drewN _
      rw [HM.out.2.2.2.2.2]
      show PutLeaves U w rb M s (.returned (.bool false)) _
      refine ⟨by rw [hf]; rfl, mE.mono (fun _ f => f.elim), .inl ⟨hf, HH.out.1.mod mE (fun _ _ f => f)⟩⟩

end Go.Proofs.Ytimbhkbdmcbodaa
