/-
  The reference's table: Add.
-/
import Derived.Test.YtimbhkbdmcbodaaRtC
namespace Go.Proofs.Ytimbhkbdmcbodaa
open Go.RowKit
set_option linter.unusedVariables false
set_option linter.unusedSimpArgs false
attribute [local go_sem ↓] Go.wp_at_zero Go.wp_at_succ
attribute [local go_sem ↓] ssLoad_fold ssStore_fold ssAlloc_fold ssBox_fold ssZero_fold ss_slice_fold
attribute [local go_sem ↓ high] ss_app_fold

/-- What the reference's Add leaves. -/
def AddLeaves (U : Nat → Prop) (w : World) (rb : Nat) (M : List SV) (s : Sess) (most : Int) : Ending → World → Prop := fun e w' =>
  Mod U w w' ∧
    (e = .returned (.int .i64 131) ∧ (((M.map (·.s)).find? (fun x => x.key = s.key)).isSome || ((M.map (·.s)).find? (fun x => x.of = s.of)).isSome) = true ∧ RTab U w' rb M ∨
     (((M.map (·.s)).find? (fun x => x.key = s.key)).isSome || ((M.map (·.s)).find? (fun x => x.of = s.of)).isSome) = false ∧
      (e = .returned (.int .i64 130) ∧ most ≤ M.length ∧ RTab U w' rb M ∨
       e = .returned (.int .i64 0) ∧ ¬ most ≤ M.length ∧ ∃ U' k A c, (∀ b, U' b → U b ∨ (w.heap.size ≤ b ∧ b < w'.heap.size)) ∧ (∀ x ∈ M.take k, klt' x.s.key s.key) ∧ (∀ x, M[k]? = some x → ¬ klt' x.s.key s.key) ∧ RTab U' w' rb (M.take k ++ ⟨s, A, c⟩ :: M.drop k)))
theorem klt_take {s : Sess} {M : List SV} {k : Nat} {z : SV} (h : ∀ x ∈ M.take k, klt' x.s.key s.key) (hz : M[k]? = some z) (he : klt' z.s.key s.key) : ∀ x ∈ M.take (k + 1), klt' x.s.key s.key := by
  obtain ⟨hlt, e⟩ := List.getElem?_eq_some_iff.1 hz
  rw [List.take_succ_eq_append_getElem hlt, e]
  intro p hp
  rcases List.mem_append.1 hp with h1 | h1
  · exact h p h1
  · obtain rfl : p = z := by simpa using h1
    exact he
set_option maxRecDepth 100000 in
set_option maxHeartbeats 2000000 in
theorem radd_ok {U S0 : Nat → Prop} {w : World} {rb : Nat} {M : List SV} (h : RTab U w rb M) (hl : M.length ≤ 1000000) (s : Sess) (A0 : Option Addr) (cc : Nat) (hx : RowAt S0 w A0 (ptCells s.peers)) (hpl : s.peers.length ≤ 65536) (most : Int) :
    Calls Try.prog 15 #[.pointer (some ⟨rb, 0, none⟩), s.val A0 cc, .int .i64 most] w (AddLeaves U w rb M s most) := by
  obtain ⟨A, c, S, hb, hc, hSr, hSU, hrow, hpe⟩ := h.blk
  obtain ⟨n, hn⟩ : ∃ n, n = M.length := ⟨_, rfl⟩
  have hll := hl
  rw [← hn] at hb hl hc
  have hlt := lt_of_block hb
  obtain ⟨b1, hb1⟩ : ∃ b1, b1 = ((M.map (·.s)).find? (fun x => x.key = s.key)).isSome := ⟨_, rfl⟩
  obtain ⟨b2, hb2⟩ : ∃ b2, b2 = ((M.map (·.s)).find? (fun x => x.of = s.of)).isSome := ⟨_, rfl⟩
  have hF1 : ∀ V, Mod No w V → Calls Try.prog 20 #[.pointer (some ⟨rb, 0, none⟩), .agg #[.int .u8 s.key.proto, .int .u32 s.key.pt.ip, .int .u16 s.key.pt.port]] V fun e w' => ∃ CA : Array Value, CA.size = 9 ∧ CA.all (·.oneCell') = true ∧ e = .returned (.tuple #[.agg CA, .bool b1]) ∧ Mod No V w' := fun V hV => by
    refine (rfind_ok (h.mod hV (fun _ _ f => f)) hll s.key).mono ?_
    rintro e w' ⟨A', c', rfl, _, hm⟩
    rw [← hb1]
    exact ⟨(SV.mk _ A' c').cells.toArray, rfl, SV.one _, rfl, hm⟩
  have hF2 : ∀ V, Mod No w V → Calls Try.prog 21 #[.pointer (some ⟨rb, 0, none⟩), .int .u8 s.key.proto, .agg #[.int .u32 s.out.ip, .int .u16 s.out.port]] V fun e w' => ∃ CA : Array Value, CA.size = 9 ∧ CA.all (·.oneCell') = true ∧ e = .returned (.tuple #[.agg CA, .bool b2]) ∧ Mod No V w' := fun V hV => by
    refine (rout_ok (h.mod hV (fun _ _ f => f)) hll s.of).mono ?_
    rintro e w' ⟨A', c', rfl, _, hm⟩
    rw [← hb2]
    exact ⟨(SV.mk _ A' c').cells.toArray, rfl, SV.one _, rfl, hm⟩
  obtain ⟨QQ, hQQ⟩ : ∃ QQ, QQ = AddLeaves U w rb M s most := ⟨_, rfl⟩
  rw [← hQQ]
  have HM := Lib.hid (And.intro hpe (And.intro hn (And.intro hrow (And.intro hb (And.intro hx hQQ)))))
  have HH := Lib.hid (And.intro h (And.intro hpl (And.intro hc (And.intro hSr (And.intro hSU (And.intro hb1 hb2))))))
  have HF1 := Lib.hid hF1
  have HF2 := Lib.hid hF2
  clear hpe hrow hc hSr hSU h hb hn hQQ hx hpl hll hF1 hF2 hb1 hb2
  have hbx : ∀ W : World, (ssBox (.agg (SV.mk s A0 cc).cells.toArray)).run Try.prog W = .ok (.pointer (some ⟨W.heap.size, 0, none⟩)) (W.alloc (.cells (SV.mk s A0 cc).cells.toArray 35)) := ssBox_run _ rfl
  obtain ⟨CS, hCS⟩ : ∃ CS, CS = (SV.mk s A0 cc).cells.toArray := ⟨_, rfl⟩
  rw [← hCS] at hbx
  have hsv : s.val A0 cc = .agg CS := by rw [hCS]; rfl
  rw [hsv]
  have HC := Lib.hid hCS
  clear hCS hsv
  have hal := ssAlloc_run
  have hcells : ∀ V : World, V.heap[w.heap.size]? = some (.cells CS 35 (0, 0)) → V.cell? ⟨w.heap.size, 0, none⟩ = some (.int .u8 s.key.proto) ∧ V.cell? ⟨w.heap.size, 1, none⟩ = some (.int .u32 s.key.pt.ip) ∧ V.cell? ⟨w.heap.size, 2, none⟩ = some (.int .u16 s.key.pt.port) ∧ V.cell? ⟨w.heap.size, 3, none⟩ = some (.int .u32 s.out.ip) ∧ V.cell? ⟨w.heap.size, 4, none⟩ = some (.int .u16 s.out.port) ∧ V.cell? ⟨w.heap.size, 6, none⟩ = some (.slice A0 s.peers.length cc) ∧ w.heap.size < V.heap.size := fun V hq1 =>
    ⟨(blk_cell hq1 0).trans (by rw [HC.out]; rfl), (blk_cell hq1 1).trans (by rw [HC.out]; rfl), (blk_cell hq1 2).trans (by rw [HC.out]; rfl), (blk_cell hq1 3).trans (by rw [HC.out]; rfl), (blk_cell hq1 4).trans (by rw [HC.out]; rfl), (blk_cell hq1 6).trans (by rw [HC.out]; rfl), lt_of_block hq1⟩
  have HCE := Lib.hid hcells
  clear hcells
  go_enter Try.func15, Try.ntmps15
  go_upto_region 1 with fail
  refine grab_w fun W hW => ?_
  have m1 : Mod No w W := by rw [hW]; exact (Mod.refl _ _).alloc _
  have hq1 : W.heap[w.heap.size]? = some (.cells CS 35 (0, 0)) := by rw [hW]; exact at10 w _
  obtain ⟨q0, q1, q2, q3, q4, q6, z1⟩ := HCE.out W hq1
  have HW := Lib.hid (And.intro m1 hq1)
  clear hW hq1 m1
  go_upto_region 2 with (go_at_call 20; refine (HF1.out _ HW.out.1).mono ?_; rintro e w1 ⟨CA, hsz, hone, rfl, hm⟩; have hst := ssStore_new w1 CA hsz hone; have H1 := Lib.hid (And.intro hm hsz); clear hm hsz hone)
  refine grab_w fun V1 hV1 => ?_
  have m1 : Mod No w V1 := by rw [hV1]; exact (HW.out.1.trans H1.out.1).alloc _
  have hq1 : V1.heap[w.heap.size]? = some (.cells CS 35 (0, 0)) := by rw [hV1]; exact (H1.out.1.alloc _).obj HW.out.2 (fun f => f)
  clear q0 q1 q2 q3 q4 q6 z1 hst
  have HV1 := Lib.hid (And.intro m1 hq1)
  cases b1 with
  | true => as_aux_lemma =>
    clear hV1 m1 hq1
    go_wp2
    rw [HM.out.2.2.2.2.2]
    show AddLeaves U w rb M s most (.returned (.int .i64 131)) _
    exact ⟨HV1.out.1.mono (fun _ f => f.elim), .inl ⟨rfl, by rw [← HH.out.2.2.2.2.2.1]; rfl, HH.out.1.mod HV1.out.1 (fun _ _ f => f)⟩⟩
  | false => as_aux_lemma =>
    obtain ⟨q0, q1, q2, q3, q4, q6, z1⟩ := HCE.out V1 hq1
    clear hV1 m1 hq1
    go_upto_region 5 with (go_at_call 21; refine (HF2.out _ HV1.out.1).mono ?_; rintro e w2 ⟨CB, hsz, hone, rfl, hm⟩; have hst := ssStore_new w2 CB hsz hone; have H2 := Lib.hid (And.intro hm hsz); clear hm hsz hone)
    refine grab_w fun V2 hV2 => ?_
    have m2 : Mod No w V2 := by rw [hV2]; exact (HV1.out.1.trans H2.out.1).alloc _
    have hq2 : V2.heap[w.heap.size]? = some (.cells CS 35 (0, 0)) := by rw [hV2]; exact (H2.out.1.alloc _).obj HV1.out.2 (fun f => f)
    clear q0 q1 q2 q3 q4 q6 z1 hst
    have HV2 := Lib.hid (And.intro m2 hq2)
    cases b2 with
    | true => as_aux_lemma =>
      clear hV2 m2 hq2
      go_wp2
      rw [HM.out.2.2.2.2.2]
      show AddLeaves U w rb M s most (.returned (.int .i64 131)) _
      exact ⟨HV2.out.1.mono (fun _ f => f.elim), .inl ⟨rfl, by rw [← HH.out.2.2.2.2.2.2]; simp, HH.out.1.mod HV2.out.1 (fun _ _ f => f)⟩⟩
    | false => as_aux_lemma =>
      have hbb : (((M.map (·.s)).find? (fun x => x.key = s.key)).isSome || ((M.map (·.s)).find? (fun x => x.of = s.of)).isSome) = false := by rw [← HH.out.2.2.2.2.2.1, ← HH.out.2.2.2.2.2.2]; rfl
      have HBB := Lib.hid hbb
      have c0 : V2.cell? ⟨rb, 0, none⟩ = some (.slice A n c) := (blk_cell (m2.obj HM.out.2.2.2.1 (fun f => f)) 0).trans rfl
      clear hV2 m2 hq2 hbb
      by_cases hmost : most ≤ (n : Int)
      · as_aux_lemma =>
        have HMO := Lib.hid hmost
        have t1 : decide (most ≤ (n : Int)) = true := by simpa using hmost
        clear hmost
        go_wp2
        rw [HM.out.2.2.2.2.2]
        show AddLeaves U w rb M s most (.returned (.int .i64 130)) _
        exact ⟨HV2.out.1.mono (fun _ f => f.elim), .inr ⟨HBB.out, .inl ⟨rfl, by rw [← HM.out.2.1]; exact HMO.out, HH.out.1.mod HV2.out.1 (fun _ _ f => f)⟩⟩⟩
      · as_aux_lemma =>
        have HMO := Lib.hid hmost
        have t1 : decide (most ≤ (n : Int)) = false := by simpa using hmost
        clear hmost
        clear t1
        go_upto_block 0 with fail
        go_cut [11] (fun s11 wx => Mod No w wx ∧ wx.heap[w.heap.size]? = some (.cells CS 35 (0, 0)) ∧ ∃ k : Nat, s11 = .int .i64 k ∧ k ≤ n ∧ (∀ x ∈ M.take k, klt' x.s.key s.key) ∧ ∀ x, M[k]? = some x → ¬ klt' x.s.key s.key)
        case first =>
          go_wp2_with fail
          go_loopw [11] (fun i wr => ∃ k : Nat, i = .int .i64 k ∧ k ≤ n ∧ (∀ x ∈ M.take k, klt' x.s.key s.key) ∧ Mod No V2 wr) (fun i _ => n - (intOf i).toNat)
          case atStart => exact ⟨0, rfl, by omega, by simp, Mod.refl _ _⟩
          case round =>
            obtain ⟨k, rfl, hk, hall, hmr⟩ := hrel
            have mr := HV2.out.1.trans hmr
            have hqr := hmr.obj HV2.out.2 (fun f => f)
            have hrow := HM.out.2.2.1.mod mr (fun _ _ f => f)
            have zr := mr.size
            clear c0
            have c0 : wr.cell? ⟨rb, 0, none⟩ = some (.slice A n c) := (blk_cell (mr.obj HM.out.2.2.2.1 (fun f => f)) 0).trans rfl
            obtain ⟨q0, q1, q2, q3, q4, q6, z1⟩ := HCE.out wr hqr
            have HR := Lib.hid (And.intro hall (And.intro hmr (And.intro mr (And.intro hqr hrow))))
            clear hall hmr mr hqr hrow q3 q4 q6
            by_cases hkn : k < n
            · obtain ⟨z, hz⟩ : ∃ z, M[k]? = some z := ⟨_, List.getElem?_eq_getElem (by have := HM.out.2.1; omega)⟩
              obtain ⟨b, o, rfl, _, hblt, hcell⟩ := sv_at HR.out.2.2.2.2 hz
              have d0 := hcell 0 _ rfl
              have d1 := hcell 1 _ rfl
              have d2 := hcell 2 _ rfl
              rw [Nat.add_zero] at d0
              have p1 : (0:Int) ≤ k := by omega
              have p2 : (k:Int) < n := by omega
              obtain ⟨t, ht⟩ : ∃ t, t = decide (klt' z.s.key s.key) := ⟨_, rfl⟩
              have hless : ∀ X, Calls Try.prog 40 #[.agg #[.int .u8 z.s.key.proto, .int .u32 z.s.key.pt.ip, .int .u16 z.s.key.pt.port], .agg #[.int .u8 s.key.proto, .int .u32 s.key.pt.ip, .int .u16 s.key.pt.port]] X fun e w' => e = .returned (.bool t) ∧ Mod No X w' := fun X => by
                rw [ht]
                exact rless_ok z.s.key s.key X
              have hold : ∀ w', Mod No wr w' → w'.cell? ⟨rb, 0, none⟩ = some (.slice (some ⟨b, o, none⟩) n c) ∧ w'.cell? ⟨b, o + k * 9, none⟩ = some (.int .u8 z.s.key.proto) ∧ w'.cell? ⟨b, o + k * 9 + 1, none⟩ = some (.int .u32 z.s.key.pt.ip) ∧ w'.cell? ⟨b, o + k * 9 + 2, none⟩ = some (.int .u16 z.s.key.pt.port) ∧ w'.cell? ⟨w.heap.size, 0, none⟩ = some (.int .u8 s.key.proto) ∧ w'.cell? ⟨w.heap.size, 1, none⟩ = some (.int .u32 s.key.pt.ip) ∧ w'.cell? ⟨w.heap.size, 2, none⟩ = some (.int .u16 s.key.pt.port) := fun w' hm => ⟨hm.cell c0 id, hm.cell d0 id, hm.cell d1 id, hm.cell d2 id, hm.cell q0 id, hm.cell q1 id, hm.cell q2 id⟩
              have HO := Lib.hid hold
              have HL := Lib.hid hless
              have HZ := Lib.hid (And.intro hz ht)
              clear hcell hz ht hless hold
              cases t with
              | true => as_aux_lemma =>
                go_wp2_with fail
                go_region_held3 (fun w' => w'.cell? ⟨rb, 0, none⟩ = some (.slice (some ⟨b, o, none⟩) n c) ∧ w'.cell? ⟨b, o + k * 9, none⟩ = some (.int .u8 z.s.key.proto) ∧ w'.cell? ⟨b, o + k * 9 + 1, none⟩ = some (.int .u32 z.s.key.pt.ip) ∧ w'.cell? ⟨b, o + k * 9 + 2, none⟩ = some (.int .u16 z.s.key.pt.port) ∧ w'.cell? ⟨w.heap.size, 0, none⟩ = some (.int .u8 s.key.proto) ∧ w'.cell? ⟨w.heap.size, 1, none⟩ = some (.int .u32 s.key.pt.ip) ∧ w'.cell? ⟨w.heap.size, 2, none⟩ = some (.int .u16 s.key.pt.port))
                  ((refine HO.out _ ?_; repeat (first | with_reducible exact Mod.refl _ _ | refine Mod.drew ?_ | with_reducible refine Mod.trans ?_ hm3))) (first | (go_at_call 40; refine (HL.out _).mono ?_; rintro e w3 ⟨rfl, hm3⟩))
                all_goals
                  go_wp2_with fail
                  have hk' : klt' z.s.key s.key := by simpa using HZ.out.2
                  exact ⟨⟨k + 1, by go_num, by omega, klt_take HR.out.1 HZ.out.1 hk', HR.out.2.1.trans (by repeat (first | with_reducible exact Mod.refl _ _ | refine Mod.drew ?_ | with_reducible refine Mod.trans ?_ hm3))⟩, by simp [intOf]; omega⟩
              | false => as_aux_lemma =>
                go_wp2_with fail
                go_region_held3 (fun w' => w'.cell? ⟨rb, 0, none⟩ = some (.slice (some ⟨b, o, none⟩) n c) ∧ w'.cell? ⟨b, o + k * 9, none⟩ = some (.int .u8 z.s.key.proto) ∧ w'.cell? ⟨b, o + k * 9 + 1, none⟩ = some (.int .u32 z.s.key.pt.ip) ∧ w'.cell? ⟨b, o + k * 9 + 2, none⟩ = some (.int .u16 z.s.key.pt.port) ∧ w'.cell? ⟨w.heap.size, 0, none⟩ = some (.int .u8 s.key.proto) ∧ w'.cell? ⟨w.heap.size, 1, none⟩ = some (.int .u32 s.key.pt.ip) ∧ w'.cell? ⟨w.heap.size, 2, none⟩ = some (.int .u16 s.key.pt.port))
                  ((refine HO.out _ ?_; repeat (first | with_reducible exact Mod.refl _ _ | refine Mod.drew ?_ | with_reducible refine Mod.trans ?_ hm3))) (first | (go_at_call 40; refine (HL.out _).mono ?_; rintro e w3 ⟨rfl, hm3⟩))
                all_goals
                  go_wp2_with fail
                  go_meet
                  have hk' : ¬ klt' z.s.key s.key := by simpa using HZ.out.2
                  have hm' : Mod No wr w3 := by repeat (first | with_reducible exact Mod.refl _ _ | refine Mod.drew ?_ | with_reducible refine Mod.trans ?_ hm3)
                  refine ⟨HR.out.2.2.1.trans hm', hm'.obj HR.out.2.2.2.1 (fun f => f), k, rfl, hk, HR.out.1, fun x hx => ?_⟩
                  rw [HZ.out.1] at hx
                  cases hx
                  exact hk'
            · as_aux_lemma =>
              have t0 : decide (k < n) = false := by simpa using hkn
              go_wp2_with fail
              go_quiet (fail)
              go_wp2_with fail
              go_meet
              refine ⟨HR.out.2.2.1.drewN _, HR.out.2.2.2.1, k, rfl, hk, HR.out.1, fun x hx => ?_⟩
              have := (List.getElem?_eq_some_iff.1 hx).1
              have := HM.out.2.1
              omega
        case rest =>
          as_aux_lemma =>
          obtain ⟨mc, hqc, k, rfl, hk, hall, hno⟩ := hcut
          have HK := Lib.hid (And.intro hall (And.intro hno hqc))
          clear c0
          have cV6 : wc.cell? ⟨w.heap.size, 6, none⟩ = some (.slice A0 s.peers.length cc) := (HCE.out wc hqc).2.2.2.2.2.1
          have zc : w.heap.size < wc.heap.size := lt_of_block hqc
          obtain ⟨A1, c1, W2, hrun, ho1, hm1⟩ := app_pts (c := cc) (HM.out.2.2.2.2.1.keeps (mc.keeps (fun _ _ _ f => f))) HH.out.2.1 22
          have hq2 := hm1.obj hqc (fun f => f)
          have d6 : W2.cell? ⟨w.heap.size, 6, none⟩ = some (.slice A0 s.peers.length cc) := (HCE.out W2 hq2).2.2.2.2.2.1
          have f6 := blk_free hq2 6
          have zz2 : w.heap.size < W2.heap.size := lt_of_block hq2
          have HV := Lib.hid (And.intro mc (And.intro ho1 (And.intro hm1 hq2)))
          have HR := Lib.hid hrun
          clear mc hqc hall hno hrun ho1 hm1 hq2
          go_upto_region 13 with (at_builtin; refine Lib.wpList_append_run _ (by rfl) _ _ _ _ (by rfl) _ _ (by rfl) (by rfl) _ _ HR.out ?_)
          refine grab_w fun X hX => ?_
          have hwc : wc.heap.size ≤ W2.heap.size := HV.out.2.2.1.size
          obtain ⟨x, hx⟩ : ∃ x : SV, x = ⟨s, A1, c1⟩ := ⟨_, rfl⟩
          have hqX : X.heap[w.heap.size]? = some (.cells x.cells.toArray 35 (0, 0)) := by
            rw [hX]
            refine (heap_setCell_row HV.out.2.2.2 _).trans ?_
            rw [hx, HC.out]
            rfl
          have m2 : Mod No w W2 := HV.out.1.trans HV.out.2.2.1
          have mX : Mod No w X := by
            rw [hX]
            exact Mod.setCell m2 (.inl (by simp)) _
          have cX : X.cell? ⟨rb, 0, none⟩ = some (.slice A n c) := (blk_cell (mX.obj HM.out.2.2.2.1 (fun f => f)) 0).trans rfl
          have hpx : RowAt (fun j => wc.heap.size ≤ j) X A1 (ptCells s.peers) := by
            rw [hX]
            exact HV.out.2.1.row.keeps (Mod.keeps (F := fun j => j = w.heap.size) (Mod.setCell (F := fun j => j = w.heap.size) (p := ⟨w.heap.size, 6, none⟩) (Mod.refl _ W2) (.inr rfl) _) (fun j _ hj f => by
              have f' : j = w.heap.size := f
              have hj' : wc.heap.size ≤ j := hj
              omega))
          have hcx : wc.heap.size ≤ X.heap.size := by rw [hX]; simpa [World.setCell] using hwc
          have hld : (ssLoad (.pointer (some ⟨w.heap.size, 0, none⟩))).run Try.prog X = .ok (.agg x.cells.toArray) X := ssLoad_run hqX rfl
          have hldd : (ssLoad (.pointer (some ⟨w.heap.size, 0, none⟩))).run Try.prog X.drew = .ok (.agg x.cells.toArray) X.drew := ssLoad_run (W := X.drew) hqX rfl
          have hsl : ∀ U : World, (ssSlice (.agg x.cells.toArray)).run Try.prog U = .ok (.slice (some ⟨U.heap.size, 0, none⟩) 1 1) (U.alloc (.cells x.cells.toArray 35)) := fun U => ssSlice_run x U
          have hcn : n ≤ c := HH.out.2.2.1
          have hf := slice_full (P := Try.prog) 39 _ 9 Try.underlying39 elemSess sizeSess A n c k hk hcn
          obtain ⟨A2, hs2, hr2⟩ := slice_tail (P := Try.prog) 39 _ 9 Try.underlying39 elemSess sizeSess A n c k hk hcn
          have hll := HM.out.2.1
          have hrowX := HM.out.2.2.1.mod mX (fun _ _ f => f)
          have hrA := hrowX.take (k * 9)
          rw [sv_take M k (by omega)] at hrA
          have hrB : RowAt (fun b => U b ∧ b ≠ rb ∧ ¬ S b) X A2 (svCells (M.drop k)) := by rw [← sv_drop M k (by omega)]; exact hr2 _ X _ (by rw [sv_len, hll]) hrowX.row
          have e1 : (M.take k).length = k := by rw [List.length_take]; omega
          have e2 : (M.drop k).length = n - k := by rw [List.length_drop]; omega
          obtain ⟨Y1, hY1⟩ : ∃ Y1, Y1 = (X.alloc (.cells x.cells.toArray 35)).drew := ⟨_, rfl⟩
          have mY1 : Mod No X Y1 := by rw [hY1]; exact ((Mod.refl No X).alloc _).drew
          have hblk1 : Y1.heap[X.heap.size]? = some (.cells x.cells.toArray 35 (0, 0)) := by rw [hY1]; exact at10d X _
          have hrx : LiesQ (fun b => b = X.heap.size) Y1 (some ⟨X.heap.size, 0, none⟩) (svCells [x]) := .inr ⟨_, 0, _, rfl, rfl, hblk1, fun j u hj => by rw [Nat.zero_add]; simpa [svCells] using hj⟩
          obtain ⟨A3, c3, w3, hrun3, hm3, hc3, hlies3⟩ := app_sess (c2 := c - k) hrx (hrB.keeps (mY1.keeps (fun _ _ _ f => f))) (by rw [e2]; simp; omega) 39
          have mA : Mod No X w3 := mY1.trans hm3
          obtain ⟨A4, c4, w4, hrun4, hm4, hc4, hlies4⟩ := app_sess (c2 := c3) (hrA.mod mA (fun _ _ f => f)) hlies3.row (by rw [e1, List.length_append, e2]; simp; omega) 39
          have e5 : ([x] : List SV).length = 1 := rfl
          have e6 : ([x] ++ M.drop k).length = 1 + (n - k) := by rw [List.length_append, e2, e5]
          rw [e1, e6] at hrun4 hc4
          rw [e5, e2] at hrun3
          rw [hY1] at hrun3
          have R3 : (ssAppend (.slice (some ⟨X.heap.size, 0, none⟩) 1 1) (.slice A2 (n - k) (c - k))).run Try.prog (X.alloc (.cells x.cells.toArray 35)).drew = .ok (.slice A3 (1 + (n - k)) c3) w3 := hrun3
          have R4 : (ssAppend (.slice A k k) (.slice A3 (1 + (n - k)) c3)).run Try.prog w3 = .ok (.slice A4 (k + (1 + (n - k))) c4) w4 := hrun4
          have m4 : Mod No X w4 := mA.trans hm4
          have zz4 : rb < w4.heap.size := Nat.lt_of_lt_of_le hlt (mX.trans m4).size
          have g3 := mA.cell cX (fun f => f)
          have zX : rb < X.heap.size := Nat.lt_of_lt_of_le hlt mX.size
          have g4 := m4.cell cX (fun f => f)
          have k4 : w4.frozen? ⟨rb, 0, none⟩ = false := blk_free ((mX.trans m4).obj HM.out.2.2.2.1 (fun f => f)) 0
          have hsY : Y1.heap.size = X.heap.size + 1 := by rw [hY1]; show (X.alloc _).heap.size = _; simp
          obtain ⟨CX, hCX⟩ : ∃ CX, CX = x.cells.toArray := ⟨_, rfl⟩
          rw [← hCX] at hld hldd hsl R3
          have HX := Lib.hid (And.intro hx (And.intro mX (And.intro hcx (And.intro hpx (And.intro m4 (And.intro hc4 (And.intro hlies4 (And.intro hm3.size hsY))))))))
          have hm4s := Lib.hid hm4.size
          have i0 : (0:Int) ≤ k := by omega
          have i1 : (k:Int) ≤ n := by omega
          have i2 : (n:Int) ≤ c := by omega
          have i3 : (k:Int) ≤ c := by omega
          clear hx hqX m2 mX hX hpx hcx hr2 hll hrowX hrA hrB e1 e2 mY1 hblk1 hrx hrun3 hm3 hc3 hlies3 mA hrun4 hm4 hc4 hlies4 e5 e6 hY1 hsY hCX m4 d6 f6 cV6
          go_region
          all_goals
            go_wp2_with fail
            have hM := HM.out
            have hH := HH.out
            have hX := HX.out
            obtain ⟨Y, hY⟩ : ∃ Y, Y = w4.setCell ⟨rb, 0, none⟩ (.slice A4 (k + (1 + (n - k))) c4) := ⟨_, rfl⟩
            have m04 : Mod No w w4 := hX.2.1.trans hX.2.2.2.2.1
            have mY : Mod (fun j => j = rb) w4 Y := by rw [hY]; exact Mod.setCell (F := fun j => j = rb) (p := ⟨rb, 0, none⟩) (Mod.refl _ w4) (.inr rfl) _
            have hYb : Y.heap[rb]? = some (.cells #[.slice A4 (k + (1 + (n - k))) c4] 48 (0, 0)) := by rw [hY]; exact heap_setCell_row (m04.obj hM.2.2.2.1 (fun f => f)) _
            have hsz : Y.heap.size = w4.heap.size := by rw [hY]; simp [World.setCell]
            have mE : Mod (fun j => j = rb) w Y := (m04.mono (fun _ f => f.elim)).trans mY
            have mXY : Mod (fun j => j = rb) X Y := (hX.2.2.2.2.1.mono (fun _ f => f.elim)).trans mY
            have hwX := hX.2.1.size
            have h4s := hX.2.2.2.2.1.size
            have h3s := hX.2.2.2.2.2.2.2.1
            have hY1 := hX.2.2.2.2.2.2.2.2
            have hA1 := hX.2.2.1
            have hV0 := HV.out.1.size
            have hw3 : w3.heap.size ≤ w4.heap.size := hm4s.out
            have hlen : (M.take k ++ (⟨s, A1, c1⟩ : SV) :: M.drop k).length = k + (1 + (n - k)) := by have := hM.2.1; simp; omega
            rw [← hY, hM.2.2.2.2.2]
            show AddLeaves U w rb M s most (.returned (.int .i64 0)) _
            refine ⟨mE.mono (fun j f => by have f' : j = rb := f; rw [f']; exact hH.1.tb), .inr ⟨HBB.out, .inr ⟨rfl, by rw [← hM.2.1]; have := HMO.out; omega, fun j => U j ∨ (w.heap.size ≤ j ∧ j < Y.heap.size), k, A1, c1, fun j hj => hj, HK.out.1, HK.out.2.1, ?_⟩⟩⟩
            refine ⟨.inl hH.1.tb, fun j hj => by rcases hj with hj | hj; exact Nat.lt_of_lt_of_le (hH.1.lt j hj) mE.size; exact hj.2, ⟨A4, c4, fun j => S j ∨ (wc.heap.size ≤ j ∧ j < X.heap.size), by rw [hlen]; exact hYb, by rw [hlen]; exact hX.2.2.2.2.2.1, ?_, ?_, ?_, ?_⟩, ?_⟩
            · rintro (hj | hj)
              · exact hH.2.2.2.1 hj
              · omega
            · rintro j (hj | hj)
              · exact .inl (hH.2.2.2.2.1 j hj)
              · exact .inr (by omega)
            · have h5 := hX.2.2.2.2.2.2.1
              rw [hX.1] at h5
              exact (h5.mono (Q' := fun j => (U j ∨ (w.heap.size ≤ j ∧ j < Y.heap.size)) ∧ j ≠ rb ∧ ¬ (S j ∨ (wc.heap.size ≤ j ∧ j < X.heap.size))) (fun j hj hs => by
                rcases hs with hs | hs
                · have := hH.1.lt j hs.1
                  exact ⟨.inl hs.1, hs.2.1, fun hsj => by rcases hsj with hsj | hsj; exact hs.2.2 hsj; omega⟩
                · have hs' : j = w3.heap.size := hs
                  refine ⟨.inr (by omega), by omega, fun hsj => ?_⟩
                  rcases hsj with hsj | hsj
                  · have := hH.1.lt j (hH.2.2.2.2.1 j hsj)
                    omega
                  · omega)).mod mY (fun j hj f => hj.2.1 f)
            · intro y hy
              have hy' : y ∈ M ∨ y = ⟨s, A1, c1⟩ := by
                rcases List.mem_append.1 hy with h1 | h1
                · exact .inl (List.mem_of_mem_take h1)
                · rcases List.mem_cons.1 h1 with h1 | h1
                  · exact .inr h1
                  · exact .inl (List.mem_of_mem_drop h1)
              rcases hy' with h1 | h1
              · exact ((hM.1 y h1).keeps (mE.keeps (fun j _ hs f => by have f' : j = rb := f; rw [f'] at hs; exact hH.2.2.2.1 hs))).mono (fun j _ hs => .inl hs)
              · rw [h1]
                have h5 := (hX.2.2.2.1.mono (S' := fun j => wc.heap.size ≤ j ∧ j < X.heap.size) (fun j hj hs => ⟨hs, hj⟩)).keeps (mXY.keeps (fun j _ hs f => by have f' : j = rb := f; omega))
                exact h5.mono (fun j _ hs => .inr hs)
            · intro y hy
              rcases List.mem_append.1 hy with h1 | h1
              · exact hH.1.few y (List.mem_of_mem_take h1)
              · rcases List.mem_cons.1 h1 with h1 | h1
                · rw [h1]; exact hH.2.1
                · exact hH.1.few y (List.mem_of_mem_drop h1)

end Go.Proofs.Ytimbhkbdmcbodaa
