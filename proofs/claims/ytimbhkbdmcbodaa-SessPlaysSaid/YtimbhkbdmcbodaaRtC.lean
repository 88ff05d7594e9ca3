/-
  The reference's table: Drop.
-/
import Derived.Test.YtimbhkbdmcbodaaRtB
import Derived.BigRegion
import Derived.Deep.RegionLaw
import Derived.Laws.CopyOwn
namespace Go.Proofs.Ytimbhkbdmcbodaa
open Go.RowKit
set_option linter.unusedVariables false
set_option linter.unusedSimpArgs false
attribute [local go_sem ↓] Go.wp_at_zero Go.wp_at_succ
attribute [local go_sem ↓] ssLoad_fold ssStore_fold ssAlloc_fold ssBox_fold ssZero_fold

/-! ### Drop -/
/-- What the reference's Drop leaves. -/
def DropLeaves (U : Nat → Prop) (w : World) (rb : Nat) (M : List SV) (q : Key) : Ending → World → Prop := fun e w' =>
  e = .returned (.bool ((M.map (·.s)).find? (fun x => x.key = q)).isSome) ∧ Mod U w w' ∧
    (((M.map (·.s)).find? (fun x => x.key = q) = none ∧ RTab U w' rb M) ∨
     ∃ U' k z, (∀ b, U' b → U b ∨ (w.heap.size ≤ b ∧ b < w'.heap.size)) ∧ M[k]? = some z ∧ z.s.key = q ∧ RTab U' w' rb (M.eraseIdx k))
theorem elemSess : Try.prog.elem 39 = 35 := by kernel_rfl
theorem sizeSess : ∀ W, (sizeOf 35).run Try.prog W = .ok 9 W := fun W => by kernel_rfl
theorem run_append_full2 {P : Program} {S S' : Nat → Prop} (w : World) (t ty e : TypeId) (i : TypeInfo) (z : Value) (size bytes : Nat) (ht : P.underlying t = some (.slice e)) (hi : P.info? e = some i) (hz : i.zero = some z)
    (hsize : i.size = size) (hby : i.bytes = bytes) (hsz : 0 < size) (A : Option Addr) (n : Nat) (xs : List Value) (hx : RowAt S w A xs) (hxl : xs.length = n * size)
    (A2 : Option Addr) (m c2 : Nat) (news : List Value) (hr : RowAt S' w A2 news) (hl : news.length = m * size) (h1 : ∀ u ∈ news, u.oneCell' = true)
    (h63 : n + m ≤ maxLen) (hbytes : (n + m) * bytes ≤ 140737488355328) :
    ∃ A' c' w', (Builtin.append_ #[t, t] ty #[.slice A n n, .slice A2 m c2]).run P w = .ok (.slice A' (n + m) c') w' ∧ Mod No w w' ∧ n + m ≤ c' ∧
      ((m = 0 ∧ w' = w ∧ A' = A) ∨ ∃ cur : Array Value, A' = some ⟨w.heap.size, 0, none⟩ ∧ w'.heap[w.heap.size]? = some (.cells cur e (0, 0)) ∧ ∀ (j : Nat) (u : Value), (xs ++ news)[j]? = some u → cur[j]? = some u) := by
  subst hsize hby
  have hsrc := src_row (P := P) ht c2 hr hl h1 hsz
  have hn0 : A = none → n = 0 := fun h => by
    subst h
    rcases hx with h0 | ⟨b, o, e, _⟩
    · subst h0
      rcases Nat.mul_eq_zero.1 hxl.symm with h | h
      · exact h
      · omega
    · cases e
  rcases Nat.eq_zero_or_pos m with rfl | hm
  · obtain rfl : news = [] := List.eq_nil_of_length_eq_zero (by simpa using hl)
    refine ⟨A, n, w, ?_, Mod.refl _ _, by omega, .inl ⟨rfl, rfl, rfl⟩⟩
    cases A with
    | none =>
      have := hn0 rfl
      subst this
      have h4 := hsrc.cells
      simp [Builtin.append_, run_underlying ht, sizeOf, typeInfo, hi, h4, Builtin.lenOf]
    | some b =>
      have h4 := hsrc.cells
      simp [Builtin.append_, run_underlying ht, sizeOf, typeInfo, hi, h4, storeCells, Builtin.lenOf]
  · have hold : (Builtin.firstCells i.size n (.slice A n n)).run P w.drew = .ok xs.toArray w.drew := by
      rcases hx with h0 | ⟨b, o, e, _, hc⟩
      · subst h0
        have hn : n = 0 := by
          rcases Nat.mul_eq_zero.1 hxl.symm with h | h
          · exact h
          · omega
        subst hn
        cases A with
        | none => exact run_firstCells_none w.drew _ 0 0 0
        | some ad => exact run_firstCells_some w.drew _ 0 ad 0 0 [] hxl (fun j u hj => by simp at hj)
      · subst e
        exact run_firstCells_some w.drew _ n _ n n xs hxl (fun j u hj => by rw [Addr.add_lit]; exact hc j u hj)
    have h := run_append_grow_src (P := P) w t t ty e i z ht hi hz A n n xs hold (.slice A2 m c2) m news hsrc (by omega) (by unfold maxLen at h63; omega) (growslice_fits (by omega) hbytes)
    refine ⟨_, _, _, h, (Mod.refl No w).drew.alloc _, grownCap_ge _ _ _ _, .inr ⟨_, rfl, at10 w.drew _, fun j u hj => ?_⟩⟩
    rw [Array.getElem?_append_left (by simpa using (List.getElem?_eq_some_iff.1 hj).1)]
    simpa using hj
def ssAppend (x y : Value) : Sem Value := Builtin.append_ #[39, 39] 39 #[x, y]
theorem ss_app_fold (ρ : Operand → Value) (x y : Operand) (dst : Option Tmp) (pos : String) (after : Array Edge) (g : Option (Nat × Bool)) :
    execOp ρ { dst := dst, op := .call { callee := .builtin .append, args := #[x, y], argTypes := #[39, 39] }, type := 39, pos := pos, after := after, guard := g } = (do pure (Next.value (← ssAppend (ρ x) (ρ y))) : Sem Next) := by
  simp [execOp, resolve, invoke, builtin, ssAppend]
attribute [local go_sem ↓ high] ss_app_fold
/-- append onto a full list of sessions: a new block, or as it was. -/
theorem app_sess {Q S : Nat → Prop} {w : World} {X Y : List SV} {A A2 : Option Addr} {c2 : Nat} (hx : LiesQ Q w A (svCells X)) (hy : RowAt S w A2 (svCells Y)) (hl : X.length + Y.length ≤ 2000000) (ty : TypeId) :
    ∃ A' c' w', (Builtin.append_ #[39, 39] ty #[.slice A X.length X.length, .slice A2 Y.length c2]).run Try.prog w = .ok (.slice A' (X.length + Y.length) c') w' ∧ Mod No w w' ∧ X.length + Y.length ≤ c' ∧ LiesQ (fun b => Q b ∨ b = w.heap.size) w' A' (svCells (X ++ Y)) := by
  obtain ⟨i0, hi, hz0, hz1, hz2⟩ := info_parts infoSess
  obtain ⟨A', c', w', h1, h2, h3, h4⟩ := run_append_full2 (P := Try.prog) w 39 ty 35 i0 _ 9 64 Try.underlying39 hi hz0 hz1 hz2 (by decide) A X.length _ hx.row (sv_len X) A2 Y.length c2 _ hy (sv_len Y) (sv_one Y) (by unfold maxLen; omega) (by omega)
  refine ⟨A', c', w', h1, h2, h3, ?_⟩
  rcases h4 with ⟨hm, rfl, rfl⟩ | ⟨cur, rfl, hg, hc⟩
  · obtain rfl := List.eq_nil_of_length_eq_zero hm
    rw [List.append_nil]
    exact hx.mono (fun b _ h => .inl h)
  · refine .inr ⟨_, 0, cur, rfl, .inr rfl, hg, fun j u hj => ?_⟩
    rw [Nat.zero_add]
    refine hc j u ?_
    unfold svCells at hj ⊢
    rwa [List.flatMap_append] at hj
set_option maxRecDepth 100000 in
set_option maxHeartbeats 2000000 in
theorem rdrop_ok {U : Nat → Prop} {w : World} {rb : Nat} {M : List SV} (h : RTab U w rb M) (hl : M.length ≤ 1000000) (q : Key) :
    Calls Try.prog 19 #[.pointer (some ⟨rb, 0, none⟩), q.val] w (DropLeaves U w rb M q) := by
  obtain ⟨A, c, S, hb, hc, hSr, hSU, hrow, hpe⟩ := h.blk
  obtain ⟨n, hn⟩ : ∃ n, n = M.length := ⟨_, rfl⟩
  rw [← hn] at hb hl hc
  have hlt := lt_of_block hb
  obtain ⟨QQ, hQQ⟩ : ∃ QQ, QQ = DropLeaves U w rb M q := ⟨_, rfl⟩
  rw [← hQQ]
  have HM := Lib.hid (And.intro hpe (And.intro hn (And.intro hrow (And.intro hb hQQ))))
  have HH := Lib.hid (And.intro h (And.intro hc (And.intro hSr hSU)))
  clear hpe hrow hc hSr hSU h hb hn hQQ
  unfold Key.val
  go_enter Try.func19, Try.ntmps19
  go_upto_block 0 with fail
  refine grab_w fun W hW => ?_
  have m1 : Mod No w W := by rw [hW]; exact (Mod.refl _ _).alloc _
  have hq1 : W.heap[w.heap.size]? = some (.cells #[.int .u8 q.proto, .int .u32 q.pt.ip, .int .u16 q.pt.port] 31 (0, 0)) := by rw [hW]; exact at10 w _
  have c0 : W.cell? ⟨rb, 0, none⟩ = some (.slice A n c) := (blk_cell (m1.obj HM.out.2.2.2.1 (fun f => f)) 0).trans rfl
  have q0 : W.cell? ⟨w.heap.size, 0, none⟩ = some (.int .u8 q.proto) := (blk_cell hq1 0).trans rfl
  have q1 : W.cell? ⟨w.heap.size, 1, none⟩ = some (.int .u32 q.pt.ip) := (blk_cell hq1 1).trans rfl
  have q2 : W.cell? ⟨w.heap.size, 2, none⟩ = some (.int .u16 q.pt.port) := (blk_cell hq1 2).trans rfl
  have z1 := lt_of_block hq1
  have hrow := HM.out.2.2.1.mod m1 (fun _ _ f => f)
  have HW := Lib.hid (And.intro m1 (And.intro hrow hq1))
  clear hW hq1 m1 hrow
  go_wp2
  go_loopw [5] (fun i wr => ∃ k : Nat, i = .int .i64 k ∧ k ≤ n ∧ (∀ p ∈ M.take k, p.s.key ≠ q) ∧ ∃ d, wr = W.drewN d) (fun i _ => n - (intOf i).toNat)
  case atStart => exact ⟨0, rfl, by omega, by simp, 0, rfl⟩
  case round =>
    obtain ⟨k, rfl, hk, hno, d, rfl⟩ := hrel
    have HNO := Lib.hid hno
    clear hno
    by_cases hkn : k < n
    · obtain ⟨z, hz⟩ : ∃ z, M[k]? = some z := ⟨_, List.getElem?_eq_getElem (by have := HM.out.2.1; omega)⟩
      obtain ⟨b, o, rfl, hQb, hblt, hcell⟩ := sv_at HW.out.2.1 hz
      have d0 := hcell 0 _ rfl
      have d1 := hcell 1 _ rfl
      have d2 := hcell 2 _ rfl
      rw [Nat.add_zero] at d0
      have p1 : (0:Int) ≤ k := by omega
      have p2 : (k:Int) < n := by omega
      have hpq := key_beq z.s.key q
      obtain ⟨t, ht⟩ : ∃ t, t = decide (z.s.key = q) := ⟨_, rfl⟩
      rw [← ht] at hpq
      have HZ := Lib.hid (And.intro hz (And.intro ht hQb))
      clear hcell hz ht hQb
      cases t with
      | true => as_aux_lemma =>
        have hcn : n ≤ c := HH.out.2.1
        have hf := slice_full (P := Try.prog) 39 _ 9 Try.underlying39 elemSess sizeSess (some ⟨b, o, none⟩) n c k (by omega) hcn
        obtain ⟨A2, hs2, hr2⟩ := slice_tail (P := Try.prog) 39 _ 9 Try.underlying39 elemSess sizeSess (some ⟨b, o, none⟩) n c (k + 1) (by omega) hcn
        have HR2 := Lib.hid hr2
        clear hr2
        go_wp2_with fail
        go_quiet (fail)
        generalize hV : (W.drewN d).drewN nq = V
        have mV : Mod No w V := by rw [← hV]; exact (HW.out.1.drewN _).drewN _
        have cV : V.cell? ⟨rb, 0, none⟩ = some (.slice (some ⟨b, o, none⟩) n c) := (blk_cell (mV.obj HM.out.2.2.2.1 (fun f => f)) 0).trans rfl
        have hrowV := HM.out.2.2.1.mod mV (fun _ _ f => f)
        have hrA := hrowV.take (k * 9)
        have hll := HM.out.2.1
        rw [sv_take M k (by omega)] at hrA
        have hrB : RowAt (fun b => U b ∧ b ≠ rb ∧ ¬ S b) V A2 (svCells (M.drop (k + 1))) := by rw [← sv_drop M (k + 1) (by omega)]; exact HR2.out _ V _ (by rw [sv_len, hll]) hrowV.row
        have e1 : (M.take k).length = k := by rw [List.length_take]; omega
        have e2 : (M.drop (k + 1)).length = n - (k + 1) := by rw [List.length_drop]; omega
        obtain ⟨A4, c4, w4, hrun4, hm4, hc4, hlies4⟩ := app_sess (w := V.drew) (c2 := c - (k + 1)) (hrA.mod (Mod.refl No V).drew (fun _ _ f => f)) (hrB.keeps ((Mod.refl No V).drew.keeps (fun _ _ _ f => f))) (by rw [e1, e2]; omega) 39
        rw [e1, e2] at hrun4 hc4
        have hrun : (ssAppend (.slice (some ⟨b, o, none⟩) k k) (.slice A2 (n - (k + 1)) (c - (k + 1)))).run Try.prog V.drew = .ok (.slice A4 (k + (n - (k + 1))) c4) w4 := hrun4
        have zz4 : rb < w4.heap.size := Nat.lt_of_lt_of_le hlt (mV.drew.trans hm4).size
        have g4 := hm4.cell (w := V.drew) cV (fun f => f)
        have k4 : w4.frozen? ⟨rb, 0, none⟩ = false := blk_free ((mV.drew.trans hm4).obj HM.out.2.2.2.1 (fun f => f)) 0
        have H4 := Lib.hid (And.intro hm4 (And.intro hc4 hlies4))
        have HV := Lib.hid (And.intro mV (And.intro e1 e2))
        simp only [Int.natCast_add, Int.natCast_one] at hs2
        have hk1 : IntKind.i64.wrap ((k : Int) + 1) = (k : Int) + 1 := IntWalk.i64_in _ (by omega)
        clear hrun4 hm4 hc4 hlies4 hrA hrB hrowV hll mV hV e1 e2 c0 q0 q1 q2 d0 d1 d2
        go_wp2_with fail
        go_region
        all_goals
          go_wp2
          have hM := HM.out
          have hH := HH.out
          have hk' : z.s.key = q := by simpa using HZ.out.2.1
          have hf := find_skip (f := (·.key)) HNO.out HZ.out.1 hk'
          have m4 : Mod No w w4 := HV.out.1.drew.trans H4.out.1
          obtain ⟨Y, hY⟩ : ∃ Y, Y = w4.setCell ⟨rb, 0, none⟩ (.slice A4 (k + (n - (k + 1))) c4) := ⟨_, rfl⟩
          have mY : Mod (fun j => j = rb) w4 Y := by rw [hY]; exact Mod.setCell (F := fun j => j = rb) (p := ⟨rb, 0, none⟩) (Mod.refl _ w4) (.inr rfl) _
          have hYb : Y.heap[rb]? = some (.cells #[.slice A4 (k + (n - (k + 1))) c4] 48 (0, 0)) := by rw [hY]; exact heap_setCell_row (m4.obj hM.2.2.2.1 (fun f => f)) _
          have hsz : Y.heap.size = w4.heap.size := by rw [hY]; simp [World.setCell]
          rw [← hY, hM.2.2.2.2]
          show DropLeaves U w rb M q (.returned (.bool true)) _
          have mE : Mod (fun j => j = rb) w Y := (m4.mono (fun _ f => f.elim)).trans mY
          have hvs := HV.out.1.size
          have hdz : V.drew.heap.size = V.heap.size := rfl
          have h4s := H4.out.1.size
          refine ⟨by rw [hf]; rfl, mE.mono (fun j f => by have f' : j = rb := f; rw [f']; exact hH.1.tb), .inr ⟨fun j => U j ∨ (w.heap.size ≤ j ∧ j < Y.heap.size), k, z, fun j hj => hj, HZ.out.1, hk', ?_⟩⟩
          have hlen : (M.eraseIdx k).length = k + (n - (k + 1)) := by rw [List.length_eraseIdx, if_pos (by have := hM.2.1; omega)]; have := hM.2.1; omega
          have her : M.eraseIdx k = M.take k ++ M.drop (k + 1) := List.eraseIdx_eq_take_drop_succ _ _
          refine ⟨.inl hH.1.tb, fun j hj => by rcases hj with hj | hj; exact Nat.lt_of_lt_of_le (hH.1.lt j hj) mE.size; exact hj.2, ⟨A4, c4, S, by rw [hlen]; exact hYb, by rw [hlen]; exact H4.out.2.1, hH.2.2.1, fun j hj => .inl (hH.2.2.2 j hj), ?_, ?_⟩, ?_⟩
          · rw [her]
            have h5 := (H4.out.2.2.mono (Q' := fun j => (U j ∨ (w.heap.size ≤ j ∧ j < Y.heap.size)) ∧ j ≠ rb ∧ ¬ S j) (fun j hj hs => by
              rcases hs with hs | hs
              · exact ⟨.inl hs.1, hs.2.1, hs.2.2⟩
              · have h6 : j = V.drew.heap.size := hs
                refine ⟨.inr (by omega), by omega, fun hsj => ?_⟩
                have := hH.1.lt j (hH.2.2.2 j hsj)
                omega))
            exact h5.mod mY (fun j hj f => hj.2.1 f)
          · intro y hy
            have hy' : y ∈ M := List.mem_of_mem_eraseIdx hy
            exact (hM.1 y hy').keeps (mE.keeps (fun j _ hs f => by have f' : j = rb := f; rw [f'] at hs; exact hH.2.2.1 hs))
          · exact fun y hy => hH.1.few y (List.mem_of_mem_eraseIdx hy)
      | false => as_aux_lemma =>
        go_wp2_with fail
        go_quiet (fail)
        go_wp2
        have hk' : z.s.key ≠ q := by simpa using HZ.out.2.1
        exact ⟨⟨k + 1, by go_num, by omega, find_go (f := (·.key)) HNO.out HZ.out.1 hk', _, rfl⟩, by simp [intOf]; omega⟩
    · as_aux_lemma =>
      have hkn' : k = n := by omega
      subst hkn'
      go_wp2
      have hf := find_over (f := (·.key)) (q := q) HNO.out (by have := HM.out.2.1; omega)
      have mE : Mod No w (W.drewN d) := HW.out.1.drewN _
      rw [HM.out.2.2.2.2]
      show DropLeaves U w rb M q (.returned (.bool false)) _
      refine ⟨by rw [hf]; rfl, mE.mono (fun _ f => f.elim), .inl ⟨hf, HH.out.1.mod mE (fun _ _ f => f)⟩⟩

end Go.Proofs.Ytimbhkbdmcbodaa
