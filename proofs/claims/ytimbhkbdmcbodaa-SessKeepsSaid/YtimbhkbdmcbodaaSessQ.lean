/-
  SessKeeps: the walk: what a table holds is its own: what went in and what came out may change.
-/
import Derived.Test.YtimbhkbdmcbodaaSessO
import Derived.Test.YtimbhkbdmcbodaaSessH
namespace Go.Proofs.Ytimbhkbdmcbodaa
open Go.RowKit
set_option linter.unusedVariables false
set_option linter.unusedSimpArgs false

def kpKey : Key := ⟨17, ⟨0, 0⟩⟩
def kpSess (l : List Point) : Sess := ⟨kpKey, ⟨0, 0⟩, 0, l, 0, 0⟩
theorem kpKey_wf : kpKey.wf := ⟨by decide, by decide, by decide⟩
theorem kpOut_wf (l : List Point) : (kpSess l).out.wf := ⟨show (Lit.int .u32 0).wf = true by decide, show (Lit.int .u16 0).wf = true by decide⟩
theorem app_points {S : Nat → Prop} {W : World} {A : Option Addr} {c : Nat} {l : List Point} (hx : RowAt S W A (ptCells l)) (hl : l.length ≤ 1000) (ty : TypeId) :
    ∃ A1 c1 W', (Builtin.append_ #[22, 22] ty #[.slice none 0 0, .slice A l.length c]).run Try.prog W = .ok (.slice A1 l.length c1) W' ∧ OwnP W.heap.size W' A1 c1 l ∧ Mod No W W' := by
  obtain ⟨i0, hi, hz0, hz1, hz2⟩ := info_parts infoPoint
  obtain ⟨v', w', h1, h2, h3, h4⟩ := run_append_row (P := Try.prog) W W.heap.size 22 ty 26 i0 _ 2 8 Try.underlying22 hi hz0 hz1 hz2 (by rfl) (by decide) (.slice none 0 0) 0 [] (World.ownsRow_nil _ _ _ _) A l.length c (ptCells l) hx (ptCells_length l) (by
    intro u hu
    obtain ⟨p, _, hp⟩ := List.mem_flatMap.1 hu
    simp only [Point.cells, List.mem_cons, List.not_mem_nil, or_false] at hp
    rcases hp with rfl | rfl <;> rfl) (by unfold maxLen; omega) (by omega) (Nat.le_refl _)
  obtain ⟨A1, c1, rfl, _, _⟩ := RowAt.of_owns h2
  rw [Nat.zero_add] at h1 h2
  exact ⟨A1, c1, w', h1, h2, Mod.grown (Mod.refl _ _) h3 (fun k hk => by cases hk)⟩
/-- The first cells of a row that is not empty. -/
theorem OwnP.first {base : Nat} {w : World} {A : Option Addr} {c : Nat} {l : List Point} (h : OwnP base w A c l) (hl : 0 < l.length) :
    ∃ g, A = some ⟨g, 0, none⟩ ∧ base ≤ g ∧ g < w.heap.size ∧ (∀ j v, (ptCells l)[j]? = some v → w.cell? ⟨g, j, none⟩ = some v) ∧ ∀ j, w.frozen? ⟨g, j, none⟩ = false := by
  rcases h.2 with ⟨hn, h0⟩ | ⟨g, cap, cur, e, hg, hb, rest⟩
  · omega
  · cases e
    refine ⟨g, rfl, hg, lt_of_block hb, fun j v hj => ?_, fun j => blk_free hb j⟩
    obtain ⟨A', c', e', _, hr⟩ := RowAt.of_owns h
    cases e'
    rcases hr with h0 | ⟨b, o, e2, _, hc⟩
    · rw [h0] at hj; simp at hj
    · cases e2
      have := hc j v hj
      rwa [Nat.zero_add] at this
theorem cell_lt {w : World} {b o : Nat} {v : Value} (h : w.cell? ⟨b, o, none⟩ = some v) : b < w.heap.size := by
  rcases Nat.lt_or_ge b w.heap.size with h1 | h1
  · exact h1
  · simp [World.cell?, Array.getElem?_eq_none h1] at h
theorem OwnP.free {base g o : Nat} {w : World} {c : Nat} {l : List Point} (h : OwnP base w (some ⟨g, o, none⟩) c l) (i : Nat) (j : Nat) : w.frozen? ⟨g, j, none⟩ = false := by
  rcases h.2 with ⟨hn, h0⟩ | ⟨g', cap, cur, e, hg, hb, rest⟩
  · cases hn
  · cases e
    exact blk_free hb j
theorem pts_first {l : List Point} (hl : 0 < l.length) : ∃ p : Point, (ptCells l)[0]? = some (.int .u32 p.ip) ∧ (ptCells l)[1]? = some (.int .u16 p.port) := by
  cases l with
  | nil => simp at hl
  | cons p r => exact ⟨p, rfl, rfl⟩

set_option maxHeartbeats 16000000 in
set_option maxRecDepth 100000 in
theorem keeps_walk {S : Nat → Prop} (A : Option Addr) (c n : Nat) (l : List Point) (p : Point) (w : World) (hx : RowAt S w A (ptCells l)) (hn : l.length = n) :
    Calls Try.prog 3 #[.slice A n c, p.val] w fun e w' => e = .returned (.bool true) ∧ Mod No w w' := by
  have HKN := Lib.hid known_ok
  have HN := Lib.hid hn
  have HX := Lib.hid (hx.mono (S' := fun b => S b ∧ b < w.heap.size) (fun b hb hs => ⟨hs, hb⟩))
  clear hn hx
  unfold Point.val
  by_cases h0 : n = 0
  · go_enter Try.func3, Try.ntmps3
    go_wp2_with (go_at_call 5; refine (HKN.out _).mono ?_; rintro e w1 ⟨rfl, hm⟩; have HM := Lib.hid hm; clear hm)
    go_ret
    exact ⟨rfl, ((Mod.refl _ _).alloc _).trans HM.out⟩
  by_cases hbig : 20 < n
  · go_enter Try.func3, Try.ntmps3
    go_wp2_with (go_at_call 5; refine (HKN.out _).mono ?_; rintro e w1 ⟨rfl, hm⟩; have HM := Lib.hid hm; clear hm)
    go_ret
    exact ⟨rfl, ((Mod.refl _ _).alloc _).trans HM.out⟩
  have hAP : ∀ W, Mod No w W → ∃ A1 c1 W', (Builtin.append_ #[22, 22] 22 #[.slice none 0 0, .slice A n c]).run Try.prog W = .ok (.slice A1 n c1) W' ∧ OwnP W.heap.size W' A1 c1 l ∧ Mod No W W' := fun W hW => by
    rw [← HN.out]
    exact app_points (HX.out.keeps (hW.keeps (fun _ _ _ => id))) (by have := HN.out; omega) _
  have HAP := Lib.hid hAP
  have HNW := Lib.hid new_ok
  have t0 : ((n : Int) == 0) = false := by rw [beq_eq_false_iff_ne]; omega
  have t1 : ¬ (20 : Int) < (n : Int) := by omega
  clear hAP
  go_enter Try.func3, Try.ntmps3
  go_wp2_with (first
    | (go_at_call 5; refine (HKN.out _).mono ?_; rintro e w1 ⟨rfl, hm⟩; have HM := Lib.hid ((((Mod.refl No w).alloc _).trans hm)); have HBX := Lib.hid (hm.obj (at10 w _) id); clear hm; have g1 := trivial)
    | (at_builtin; have gd := g1; clear gd g1; obtain ⟨A1, c1, w2, hrun, ho1, hm1⟩ := HAP.out w1 HM.out; refine Lib.wpList_append_run _ (by rfl) _ _ _ _ (by rfl) _ _ (by rfl) (by rfl) _ _ hrun ?_; have H1 := Lib.hid (And.intro ho1 hm1); clear hrun ho1 hm1; have g2 := trivial)
    | (at_builtin; have gd := g2; clear gd g2; obtain ⟨A2, c2, w3, hrun, ho2, hm2⟩ := HAP.out w2 (HM.out.trans H1.out.2); refine Lib.wpList_append_run _ (by rfl) _ _ _ _ (by rfl) _ _ (by rfl) (by rfl) _ _ hrun ?_; have H2 := Lib.hid (And.intro ho2 hm2); clear hrun ho2 hm2; have g3 := trivial)
    | (go_at_call 6; refine (HNW.out _).mono ?_; rintro e w4 ⟨rfl, hT, hm4⟩; have H4 := Lib.hid (And.intro hT hm4); clear hT hm4))
  have hadd : ∀ T, Calls Try.prog 7 #[.pointer (some ⟨w3.heap.size + 2, 0, none⟩), .agg #[.int .u8 17, .int .u32 0, .int .u16 0, .int .u32 0, .int .u16 0, .int .u32 0, .slice A2 n c2, .int .i64 0, .int .u32 0], .int .i64 5] (w4.alloc (.cells #[.int .u8 17, .int .u32 0, .int .u16 0] T)) fun e w' => e = .returned (.int .i64 0) ∧ Mod (fun b => b = w3.heap.size ∨ b = w3.heap.size + 1) (w4.alloc (.cells #[.int .u8 17, .int .u32 0, .int .u16 0] T)) w' ∧ ∃ S', (∀ b, S' b → No b ∨ ((w4.alloc (.cells #[.int .u8 17, .int .u32 0, .int .u16 0] T)).heap.size ≤ b ∧ b < w'.heap.size)) ∧ Tab w' (w3.heap.size + 2) w3.heap.size (w3.heap.size + 1) S' ([] ++ [kpSess l]) := fun T => by
    have h := add_new_ok (H4.out.1.mod ((Mod.refl No w4).alloc (.cells #[.int .u8 17, .int .u32 0, .int .u16 0] T))) (kpSess l) A2 c2 kpKey_wf (kpOut_wf l) 5 (S0 := fun b => w2.heap.size ≤ b) ((H2.out.1.row.keeps (Mod.keeps (H4.out.2.alloc _) (fun _ _ _ => id)))) (by show l.length ≤ _; have := HN.out; omega) (by decide) rfl rfl
    unfold kpSess Sess.val kpKey at h
    simp only [HN.out] at h
    exact h
  have HADD := Lib.hid hadd
  clear hadd
  refine (HADD.out _).mono ?_
  rintro e w5 ⟨rfl, hm5, S5, hS5, hT5⟩
  rw [List.nil_append] at hT5
  have hnl : 0 < l.length := by have := HN.out; omega
  obtain ⟨p0, e0, e1⟩ := pts_first hnl
  obtain ⟨ga, rfl, hga, hga', hca, hfa⟩ := H1.out.1.first hnl
  obtain ⟨gm, rfl, hgm, hgm', hcm, hfm⟩ := H2.out.1.first hnl
  have hs3 : w2.heap.size ≤ w3.heap.size := H2.out.2.size
  have hs4 : w3.heap.size + 3 ≤ w4.heap.size := by have := lt_of_block H4.out.1.row; omega
  have hs5 := hm5.size
  simp only [World.size_alloc] at hs5
  have m35 : Mod No w3 w5 := (H4.out.2.trans ((Mod.refl No w4).alloc _)).trans' hm5 (fun i hi f => by rcases f with f | f <;> omega)
  have hk5 := hm5.obj (at10 w4 (.cells #[.int .u8 17, .int .u32 0, .int .u16 0] 31)) (by intro f; rcases f with f | f <;> omega)
  have k0 : w5.cell? ⟨w4.heap.size, 0, none⟩ = some (.int .u8 17) := (blk_cell hk5 0).trans rfl
  have k1 : w5.cell? ⟨w4.heap.size, 1, none⟩ = some (.int .u32 0) := (blk_cell hk5 1).trans rfl
  have k2 : w5.cell? ⟨w4.heap.size, 2, none⟩ = some (.int .u16 0) := (blk_cell hk5 2).trans rfl
  have d0 : w5.cell? ⟨gm, 0, none⟩ = some (.int .u32 p0.ip) := m35.cell (hcm 0 _ e0) (fun f => f)
  have hgm5 : gm < w5.heap.size := by omega
  have fm0 : w5.frozen? ⟨gm, 0, none⟩ = false := by
    have hown5 := H2.out.1.mod m35 (fun _ _ f => f)
    obtain ⟨g9, e9, _, _, _, hf9⟩ := hown5.first hnl
    cases e9
    exact hf9 0
  have H5 := Lib.hid (And.intro hm5 (And.intro hS5 (And.intro hT5 (And.intro m35 (And.intro hga (And.intro hga' (And.intro hgm hgm')))))))
  have HC := Lib.hid (And.intro hca hcm)
  have HE := Lib.hid (And.intro e0 e1)
  clear hm5 hS5 hT5 m35 hga hga' hgm hgm' hca hcm hfa hfm e0 e1 hk5
  have t2 : (0 : Int) < n := by omega
  have ne1 : w4.heap.size ≠ gm := by have := H5.out.2.2.2.2.2.2.2; omega
  have ne2 : gm ≠ w4.heap.size := fun e => ne1 e.symm
  go_wp2_with fail
  generalize hV : w5.setCell _ _ = V0
  have mV : Mod (fun b => b = gm) w5 V0 := by rw [← hV]; exact (Mod.refl (fun b => b = gm) w5).setCell (p := ⟨gm, 0, none⟩) (.inr rfl) _
  clear hV
  have z := H5.out
  have hTV : Tab V0 (w3.heap.size + 2) w3.heap.size (w3.heap.size + 1) S5 [kpSess l] := z.2.2.1.keeps (mV.keeps (fun b hb hs f => by
    have f' : b = gm := f
    have hg := z.2.2.2.2.2.2.2
    have hS := z.2.1 b
    simp only [World.size_alloc] at hS
    rcases hs with h | h | h | h
    · rcases hS h with h | h
      · exact h
      · omega
    · omega
    · omega
    · omega))
  have mV2 : Mod (fun b => b = gm) w2 V0 := ((H2.out.2.trans z.2.2.2.1).mono (fun _ f => f.elim)).trans mV
  have hw12 := H1.out.2.size
  have hrow : RowAt (fun _ => True) V0 (some ⟨ga, 0, none⟩) (ptCells l) := (((H1.out.1.row.mono (S' := fun b => b < w2.heap.size) (fun b hb hs => hb)).keeps (mV2.keeps (fun b hb hs f => by have f' : b = gm := f; have := z.2.2.2.2.2.2.1; omega)))).mono (fun _ _ _ => trivial)
  have mV1 : Mod (fun b => b = gm) w1 V0 := (H1.out.2.mono (fun _ f => f.elim)).trans mV2
  have hbx := mV1.obj HBX.out (fun f => by have := lt_of_block HBX.out; have := z.2.2.2.2.2.2.1; omega)
  have mW : Mod No w V0 := HM.out.trans' mV1 (fun i hi f => by have := HM.out.size; have := z.2.2.2.2.2.2.1; have f' : i = gm := f; omega)
  have h60 : l.length ≤ 60000 := by have := HN.out; omega
  -- the calls from here on
  have hpts : ∀ U B d (S' : Nat → Prop), Mod No V0 U → RowAt S' U B (ptCells l) → Calls Try.prog 9 #[.slice B n d, .slice (some ⟨ga, 0, none⟩) n c1] U fun e w' => e = .returned (.bool true) ∧ Mod No U w' := fun U B d S' hU hB => by
    have h := points_ok B (some ⟨ga, 0, none⟩) d c1 l l U hB (hrow.keeps (hU.keeps (fun _ _ _ f => f))) (by omega)
    rw [HN.out] at h
    refine h.mono ?_
    rintro e w' ⟨he, k, rfl⟩
    exact ⟨by simpa using he, (Mod.refl _ _).drewN _⟩
  have hptl : ∀ U, Mod No V0 U → Calls Try.prog 9 #[.slice (some ⟨ga, 0, none⟩) n c1, .slice A n c] U fun e w' => e = .returned (.bool true) ∧ Mod No U w' := fun U hU => by
    have h := points_ok (some ⟨ga, 0, none⟩) A c1 c l l U (hrow.keeps (hU.keeps (fun _ _ _ f => f))) (HX.out.keeps ((mW.trans hU).keeps (fun _ _ _ f => f))) (by omega)
    rw [HN.out] at h
    refine h.mono ?_
    rintro e w' ⟨he, k, rfl⟩
    exact ⟨by simpa using he, (Mod.refl _ _).drewN _⟩
  have hfind : Calls Try.prog 8 #[.pointer (some ⟨w3.heap.size + 2, 0, none⟩), .agg #[.int .u8 17, .int .u32 0, .int .u16 0]] V0 fun e w' => ∃ A' c', e = .returned (.tuple #[.agg #[.int .u8 17, .int .u32 0, .int .u16 0, .int .u32 0, .int .u16 0, .int .u32 0, .slice A' n c', .int .i64 0, .int .u32 0], .bool true]) ∧ OwnP V0.heap.size w' A' c' l ∧ Mod No V0 w' := by
    have h := find_own hTV kpKey kpKey_wf (kpSess l) (by simp [kpSess])
    unfold kpSess Sess.val kpKey at h
    simp only [HN.out] at h
    exact h
  have hout : ∀ U, Mod No V0 U → Calls Try.prog 11 #[.pointer (some ⟨w3.heap.size + 2, 0, none⟩), .int .u8 17, .agg #[.int .u32 0, .int .u16 0]] U fun e w' => ∃ A' c', e = .returned (.tuple #[.agg #[.int .u8 17, .int .u32 0, .int .u16 0, .int .u32 0, .int .u16 0, .int .u32 0, .slice A' n c', .int .i64 0, .int .u32 0], .bool true]) ∧ OwnP U.heap.size w' A' c' l ∧ Mod No U w' := fun U hU => by
    have h := out_own (hTV.mod hU) kpKey kpKey_wf (kpSess l) (by simp [kpSess, Sess.of, kpKey])
    unfold kpSess Sess.val kpKey at h
    simp only [HN.out] at h
    exact h
  have hall : ∀ U, Mod No V0 U → Calls Try.prog 10 #[.pointer (some ⟨w3.heap.size + 2, 0, none⟩)] U fun e w' => ∃ gb ob cb A' c', e = .returned (.slice (some ⟨gb, ob, none⟩) 1 cb) ∧ w'.cell? ⟨gb, ob + 6, none⟩ = some (.slice A' n c') ∧ gb < w'.heap.size ∧ OwnP U.heap.size w' A' c' l ∧ Mod No U w' := fun U hU => by
    refine (all_ok (hTV.mod hU) (by simp)).mono ?_
    rintro e w' ⟨v, l', rfl, hol, hl', hm⟩
    have hone : allOf [kpSess l] = [kpSess l] := by simp [allOf, byKeys, kSort]
    rw [hone] at hl'
    obtain ⟨x, rfl⟩ : ∃ x, l' = [x] := List.length_eq_one_iff.1 (by simpa using congrArg List.length hl')
    obtain ⟨xs, A', c'⟩ := x
    obtain rfl : xs = kpSess l := by simpa using hl'
    obtain ⟨B, cb, rfl, _, hr, hR⟩ := hol.open
    have hR' := hR _ (List.mem_singleton.2 rfl)
    rcases hr with h0 | ⟨gb, ob, rfl, _, hc⟩
    · simp [shSess, SV.cells] at h0
    · have hc6 := hc 6 (.slice A' n c') (by rw [← HN.out]; rfl)
      refine ⟨gb, ob, cb, A', c', rfl, hc6, ?_, ?_, hm⟩
      · exact cell_lt hc6
      · have h1 : OwnP 0 w' A' c' l := hR'.1
        have h2 := hR'.2
        refine ⟨h1.1, ?_⟩
        rcases h1.2 with hn | ⟨g, cap, cur, e, hg, rest⟩
        · exact .inl hn
        · exact .inr ⟨g, cap, cur, e, h2 g (by rw [show (SV.mk (kpSess l) A' c').s.peers = l from rfl, e]; rfl), rest⟩
  have hpeer : ∀ U, Mod No V0 U → Calls Try.prog 12 #[.slice (some ⟨ga, 0, none⟩) n c1, .agg #[.int .u32 p.ip, .int .u16 p.port]] U fun e w' => ∃ A' c', e = .returned (.slice A' (peer l p).length c') ∧ OwnP U.heap.size w' A' c' (peer l p) ∧ Mod No U w' := fun U hU => by
    have h := peer_ok (some ⟨ga, 0, none⟩) c1 l p U (hrow.keeps (hU.keeps (fun _ _ _ f => f))) h60
    rw [HN.out] at h
    refine h.mono ?_
    rintro e w' ⟨v, rfl, ho, hm⟩
    obtain ⟨A', c', rfl, _, _⟩ := RowAt.of_owns ho
    exact ⟨A', c', rfl, ho, hm⟩
  have HFI := Lib.hid hfind
  have HCA := Lib.hid (And.intro hpts (And.intro hptl (And.intro hout (And.intro hall (And.intro hpeer (And.intro mW hbx))))))
  clear hTV hrow hpts hptl hfind hout hall hpeer z mV mV1 mV2 mW hbx hw12 h60 k0 k1 k2 d0 fm0 hs3 hs4 hs5 hgm5
  refine HFI.out.mono ?_
  rintro e w6 ⟨A3, c3, rfl, ho3, hm6⟩
  obtain ⟨g3, rfl, hg3, hg3', hc3, hf3⟩ := ho3.first hnl
  have HO3 := Lib.hid (And.intro ho3 (And.intro hm6 (And.intro hg3 (And.intro hg3' (And.intro hc3 hf3)))))
  clear ho3 hm6 hg3 hc3 hf3
  have ne3 : w6.heap.size ≠ g3 := by omega
  have ne4 : g3 ≠ w6.heap.size := by omega
  go_wp2_with (go_at_call 9; refine (HCA.out.1 _ _ _ (fun _ => True) (HO3.out.2.1.alloc _) ((HO3.out.1.row.keeps (((Mod.refl No w6).alloc _).keeps (fun _ _ _ f => f))).mono (fun _ _ _ => trivial))).mono ?_; rintro e w7 ⟨rfl, hm7⟩; have hk7 := hm7.obj (at10 w6 _) id; have c7 := blk_cell hk7 6; have f7 := blk_free hk7 6; have HM7 := Lib.hid (((Mod.refl No w6).alloc _).trans hm7); clear hm7 hk7; have d7 : w7.cell? ⟨g3, 1, none⟩ = some (.int .u16 p0.port) := HM7.out.cell (HO3.out.2.2.2.2.1 1 _ HE.out.2) (fun f => f); have e7 : w7.frozen? ⟨g3, 1, none⟩ = false := ((HO3.out.1.mod HM7.out (fun _ _ f => f)).free 0 1); have hg7 : g3 < w7.heap.size := by have := HM7.out.size; omega)
  generalize hV1 : w7.setCell _ _ = V1
  have mV1 : Mod No V0 V1 := by
    rw [← hV1]
    exact (HO3.out.2.1.trans HM7.out).trans' ((Mod.refl (fun b => b = g3) w7).setCell (p := ⟨g3, 1, none⟩) (.inr rfl) _) (fun i hi f => by have := HO3.out.2.2.1; have f' : i = g3 := f; omega)
  have HV1 := Lib.hid mV1
  clear hV1 mV1 c7 f7 d7 e7 hg7 ne3 ne4
  refine (HCA.out.2.2.2.1 V1 HV1.out).mono ?_
  rintro e w8 ⟨gb, ob, cb, A4, c4, rfl, hcb, hgb, ho4, hm8⟩
  obtain ⟨g4, rfl, hg4, hg4', hc4, hf4⟩ := ho4.first hnl
  have HO4 := Lib.hid (And.intro ho4 (And.intro hm8 (And.intro hg4 (And.intro hcb hc4))))
  clear ho4 hm8 hg4 hc4 hf4
  go_wp2_with (go_at_call 9; refine (HCA.out.1 _ _ _ (fun _ => True) (HV1.out.trans HO4.out.2.1) (HO4.out.1.row.mono (fun _ _ _ => trivial))).mono ?_; rintro e w9 ⟨rfl, hm9⟩; have c9 := hm9.cell HO4.out.2.2.2.1 (fun f => f); have HM9 := Lib.hid hm9; clear hm9; have d9 : w9.cell? ⟨g4, 1, none⟩ = some (.int .u16 p0.port) := HM9.out.cell (HO4.out.2.2.2.2 1 _ HE.out.2) (fun f => f); have e9 : w9.frozen? ⟨g4, 1, none⟩ = false := ((HO4.out.1.mod HM9.out (fun _ _ f => f)).free 0 1); have hg9 : g4 < w9.heap.size := by have := HM9.out.size; omega)
  generalize hV2 : w9.setCell _ _ = V2
  have mV2 : Mod No V0 V2 := by
    rw [← hV2]
    exact ((HV1.out.trans HO4.out.2.1).trans HM9.out).trans' ((Mod.refl (fun b => b = g4) w9).setCell (p := ⟨g4, 1, none⟩) (.inr rfl) _) (fun i hi f => by have := HO4.out.2.2.1; have := HV1.out.size; have f' : i = g4 := f; omega)
  have HV2 := Lib.hid mV2
  clear hV2 mV2 c9 d9 e9 hg9 hcb
  refine (HCA.out.2.2.1 V2 HV2.out).mono ?_
  rintro e w10 ⟨A5, c5, rfl, ho5, hm10⟩
  have mV10 : Mod No V0 w10 := HV2.out.trans hm10
  have hb10 := mV10.obj HCA.out.2.2.2.2.2.2 (fun f => f)
  have k0 : w10.cell? ⟨w.heap.size, 0, none⟩ = some (.int .u32 p.ip) := (blk_cell hb10 0).trans rfl
  have k1 : w10.cell? ⟨w.heap.size, 1, none⟩ = some (.int .u16 p.port) := (blk_cell hb10 1).trans rfl
  have z10 : w.heap.size < w10.heap.size := lt_of_block hb10
  have HO5 := Lib.hid (And.intro ho5 mV10)
  clear ho5 hm10 mV10 hb10
  have hpl : 0 < (peer l p).length := by rw [peer, List.length_drop, List.length_append, List.length_singleton]; omega
  obtain ⟨q0, q1, q2⟩ := pts_first hpl
  have t3 : (0 : Int) < ((peer l p).length : Int) := by omega
  have HQ := Lib.hid (And.intro hpl (And.intro q1 q2))
  clear q1 q2 hpl
  go_wp2_with (first
    | (go_at_call 12; refine (HCA.out.2.2.2.2.1 _ (HO5.out.2.alloc _)).mono ?_; rintro e w11 ⟨A6, c6, rfl, ho6, hm11⟩; obtain ⟨g6, rfl, hg6, hg6', hc6, hf6⟩ := ho6.first HQ.out.1; have hk11 := hm11.obj (at10 w10 _) id; have c11 := blk_cell hk11 6; have f11 := blk_free hk11 6; have d11 := hc6 0 _ HQ.out.2.1; have e11 := hf6 0;
       have HM11 := Lib.hid (And.intro hm11 (And.intro hg6 ((Mod.refl No w10).alloc _ |>.trans hm11))); have ne5 : w10.heap.size ≠ g6 := (by simp at hg6; omega); have ne6 : g6 ≠ w10.heap.size := (fun e => ne5 e.symm); clear hk11 hm11 ho6 hc6 hf6 hg6)
    | fail)
  generalize hV3 : w11.setCell _ _ = V3
  have mV3 : Mod No w10 V3 := by
    rw [← hV3]
    exact HM11.out.2.2.trans' ((Mod.refl (fun b => b = g6) w11).setCell (p := ⟨g6, 0, none⟩) (.inr rfl) _) (fun i hi f => by have := HM11.out.2.1; simp at this; have f' : i = g6 := f; omega)
  have HV3 := Lib.hid mV3
  clear hV3 mV3 c11 f11 d11 e11 ne5 ne6 k0 k1
  refine (HCA.out.1 V3 _ _ (fun _ => True) (HO5.out.2.trans HV3.out) ((HO5.out.1.row.keeps (HV3.out.keeps (fun _ _ _ f => f))).mono (fun _ _ _ => trivial))).mono ?_
  rintro e w12 ⟨rfl, hm12⟩
  have HM12 := Lib.hid ((HO5.out.2.trans HV3.out).trans hm12)
  clear hm12
  go_wp2_with (go_at_call 9; refine (HCA.out.2.1 _ HM12.out).mono ?_; rintro e w13 ⟨rfl, hm13⟩; have HM13 := Lib.hid (HM12.out.trans hm13); clear hm13)
  go_ret
  exact ⟨by first | rfl | simp, HCA.out.2.2.2.2.2.1.trans HM13.out⟩

end Go.Proofs.Ytimbhkbdmcbodaa
