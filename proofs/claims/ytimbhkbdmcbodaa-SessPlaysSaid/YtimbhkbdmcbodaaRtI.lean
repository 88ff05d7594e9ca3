/-
  SessPlays: the walk: a script played to the program's table and to the reference's.
-/
import Derived.Test.YtimbhkbdmcbodaaRtH
import Derived.Test.YtimbhkbdmcbodaaSessO
import Derived.Test.YtimbhkbdmcbodaaOpenA
namespace Go.Proofs.Ytimbhkbdmcbodaa
open Go.RowKit
set_option linter.unusedVariables false
set_option linter.unusedSimpArgs false
attribute [local go_sem ↓] Go.wp_at_zero Go.wp_at_succ
attribute [local go_sem ↓] ssLoad_fold ssStore_fold ssAlloc_fold ssBox_fold ssZero_fold acLoad_fold acStore_fold acAlloc_fold

/-- Between two rounds. -/
def PlAt (w : World) (tb mb mo rb k : Nat) (wr : World) : Prop := ∃ U L M, Both w.heap.size tb mb mo rb U wr L M ∧ L.length ≤ k ∧ Mod No w wr
/-- An empty table of the reference's. -/
theorem both_new {w W W' : World} {tb mb mo : Nat} (hm : Mod No w W) (hT : Tab W tb mb mo No []) (hb : w.heap.size ≤ mb ∧ w.heap.size ≤ mo ∧ w.heap.size ≤ tb) (hW' : W' = W.alloc (.cells #[.slice none 0 0] 48)) : PlAt w tb mb mo W.heap.size 0 W' := by
  subst hW'
  have m1 : Mod No W (W.alloc (.cells #[.slice none 0 0] 48)) := (Mod.refl _ _).alloc _
  obtain ⟨_, _, g1, _⟩ := hT.byKey
  obtain ⟨_, _, g2, _⟩ := hT.byOut
  have l1 := lt_of_block g1
  have l2 := lt_of_block g2
  have l3 := lt_of_block hT.row
  refine ⟨fun b => b = W.heap.size, [], [], ⟨⟨No, hT.mod m1, fun b hb => hb.elim, fun b _ f => f⟩, ⟨rfl, fun b hb => by rw [hb]; simp, ⟨none, 0, No, ?_, by simp, fun f => f, fun b f => f.elim, .inl rfl, by simp⟩, by simp⟩, by simp, by simp [Srt], fun b hb => ?_, hb⟩, by simp, hm.trans m1⟩
  · exact at10 W _
  · have hb' : b = W.heap.size := hb
    have := hm.size
    exact ⟨by omega, by omega, by omega, by omega⟩

set_option maxRecDepth 100000 in
set_option maxHeartbeats 40000000 in
theorem plays_walk (A : Option Addr) (c n : Nat) (l : List Ac) (w : World) (hx : RowAt (fun _ => True) w A (acCells l)) (hn : n = l.length) (hl : n ≤ 9223372036854775807) (hg : ∀ a ∈ l, a.x.Good w) :
    Calls Try.prog 4 #[.slice A n c] w fun e w' => e = .returned (.bool true) ∧ Mod No w w' := by
  have HKN := Lib.hid known_ok
  have HNW := Lib.hid new_ok
  have hrow : RowAt (fun b => b < w.heap.size) w A (acCells l) := hx.mono (fun b hb _ => hb)
  have hgr : ∀ a ∈ l, RowAt (fun b => b < w.heap.size) w a.x.A (ptCells a.x.s.peers) := fun a ha => (hg a ha).row.mono (fun b hb _ => hb)
  have hli : ∀ W, Mod No w W → Calls Try.prog 13 #[.slice A n c] W fun e w' => e = .returned (.bool (decide (LightL l))) ∧ Mod No W w' := fun W hW => light_ok (hrow.keeps (hW.keeps (fun _ _ _ f => f))) hn (by omega)
  have HLI := Lib.hid hli
  have H0 := Lib.hid (And.intro hrow (And.intro hgr (And.intro hg hn)))
  clear hx hg hrow hgr hli hn
  by_cases hL : LightL l
  · have hd : decide (LightL l) = true := decide_eq_true hL
    rw [hd] at HLI
    have HL := Lib.hid hL
    have hn60 : n ≤ 60 := by rw [H0.out.2.2.2]; exact hL.1
    clear hL hd
    go_enter Try.func4, Try.ntmps4
    go_upto_region 3 with (go_at_call 5; refine (HKN.out _).mono ?_; rintro e w1 ⟨rfl, hm⟩; have HM1 := Lib.hid hm; clear hm)
    go_upto_region 5 with (go_at_call 13; refine (HLI.out _ HM1.out).mono ?_; rintro e w2 ⟨rfl, hm⟩; have HM2 := Lib.hid (HM1.out.trans hm); clear hm)
    go_upto_region 6 with (go_at_call 6; refine (HNW.out _).mono ?_; rintro e w3 ⟨rfl, hT, hm⟩; have H3 := Lib.hid (And.intro hT hm); clear hT hm)
    obtain ⟨tb, htb⟩ : ∃ tb, tb = w2.heap.size + 2 := ⟨_, rfl⟩
    obtain ⟨rb, hrb⟩ : ∃ rb, rb = w3.heap.size := ⟨_, rfl⟩
    rw [← htb, ← hrb]
    refine grab_w fun W hW => ?_
    have hz2 := HM2.out.size
    have hP := both_new (HM2.out.trans H3.out.2) H3.out.1 ⟨by omega, by omega, by omega⟩ hW
    rw [← htb, ← hrb] at hP
    obtain ⟨mb, hmb⟩ : ∃ mb, mb = w2.heap.size := ⟨_, rfl⟩
    obtain ⟨mo, hmo⟩ : ∃ mo, mo = w2.heap.size + 1 := ⟨_, rfl⟩
    rw [← hmo, ← hmb] at hP
    have HP := Lib.hid hP
    clear hP hW hz2 htb hrb hmb hmo
    go_wp2_with fail
    go_loopw [5] (fun i wr => ∃ k : Nat, i = .int .i64 k ∧ k ≤ n ∧ PlAt w tb mb mo rb k wr) (fun i _ => n - (intOf i).toNat)
    case atStart => exact ⟨0, rfl, by omega, HP.out⟩
    case round =>
      obtain ⟨k, rfl, hk, hP⟩ := hrel
      have HR := Lib.hid hP
      clear hP
      by_cases hkn : k < n
      · as_aux_lemma =>
        obtain ⟨U, L, M, hB, hLk, hMr⟩ := HR.out
        clear HR HP HKN HNW HLI
        obtain ⟨a, ha⟩ : ∃ a, l[k]? = some a := ⟨_, List.getElem?_eq_getElem (by have := H0.out.2.2.2; omega)⟩
        have hmem := List.mem_of_getElem? ha
        obtain ⟨b, o, rfl, hbS, hblt, hcell⟩ := ac_at (H0.out.1.keeps (hMr.keeps (fun _ _ _ f => f))) ha
        have hld := acLoad_mid wr b (o + k * 13) a hcell
        have hal := acAlloc_run wr
        have hst := acStore_new wr a.cells.toArray rfl (Ac.one a)
        have hgood := H0.out.2.2.1 a hmem
        have hap : RowAt (fun b => b < w.heap.size) wr a.x.A (ptCells a.x.s.peers) := (H0.out.2.1 a hmem).keeps (hMr.keeps (fun _ _ _ f => f))
        have hfew : a.x.s.peers.length ≤ 20 := HL.out.2 a hmem
        obtain ⟨CA, hCA⟩ : ∃ CA, CA = a.cells.toArray := ⟨_, rfl⟩
        rw [← hCA] at hld hst
        have p1 : (0:Int) ≤ k := by omega
        have p2 : (k:Int) < n := by omega
        have HB := Lib.hid (And.intro hB (And.intro hLk hMr))
        have HA := Lib.hid (And.intro hgood (And.intro hap (And.intro hfew hCA)))
        clear hB hLk hMr hcell hmem ha hbS hblt hgood hap hfew hCA
        go_upto_region 10 with fail
        refine grab_w fun W hW => ?_
        obtain ⟨xb, hxb⟩ : ∃ xb, xb = wr.heap.size := ⟨_, rfl⟩
        rw [← hxb]
        have hm1 : Mod No wr W := by rw [hW]; exact (Mod.refl _ _).alloc _
        have hblk : W.heap[xb]? = some (.cells CA 50 (0, 0)) := by rw [hW, hxb]; exact at10 wr _
        have hBW := HB.out.1.mod hm1
        obtain ⟨AM, cm, SM, hrbb, hcm, _, _, hrowM, _⟩ := hBW.rtab.blk
        obtain ⟨m, hm⟩ : ∃ m, m = M.length := ⟨_, rfl⟩
        rw [← hm] at hrbb hcm
        have c0 : W.cell? ⟨rb, 0, none⟩ = some (.slice AM m cm) := (blk_cell hrbb 0).trans rfl
        have hrbl := lt_of_block hrbb
        have hne : rb ≠ xb := by have := HB.out.1.rtab.lt rb HB.out.1.rtab.tb; omega
        have d11 : W.cell? ⟨xb, 11, none⟩ = some (.int .i64 a.k) := (blk_cell hblk 11).trans (by rw [HA.out.2.2.2]; rfl)
        have d12 : W.cell? ⟨xb, 12, none⟩ = some (.bool a.own) := (blk_cell hblk 12).trans (by rw [HA.out.2.2.2]; rfl)
        have zx : xb < W.heap.size := lt_of_block hblk
        have HW := Lib.hid (And.intro hm1 (And.intro hblk (And.intro hBW (And.intro hrowM (And.intro hm hxb)))))
        clear hld hal hst hm1 hblk hBW hrowM hm hW hxb hrbb
        obtain ⟨b44, hb44⟩ : ∃ b44, b44 = (a.own && decide (0 < m)) := ⟨_, rfl⟩
        have HB44 := Lib.hid hb44
        go_cut [44] (fun s44 wx => s44 = .bool b44 ∧ W = wx)
        case first =>
          --<C
          cases ho : a.own with
          | false =>
            rw [ho] at d12 hb44
            have hb' : b44 = false := by rw [hb44]; rfl
            have HB' := Lib.hid hb'
            clear hb44 HB44 hb'
            go_wp2_with fail
            go_meet
            exact ⟨by rw [HB'.out], rfl⟩
          | true =>
            rw [ho] at d12 hb44
            have hb' : decide (0 < m) = b44 := by rw [hb44]; rfl
            clear hb44 HB44
            have HB' := Lib.hid hb'
            clear hb'
            go_wp2_with fail
            go_meet
            exact ⟨by rw [HB'.out], rfl⟩
          -->C
        case rest =>
        obtain ⟨rfl, rfl⟩ := hcut
        clear hb44 d12
        apply_assumption
        go_cut [] (fun wx => ∃ a' : Ac, wx.heap[xb]? = some (.cells a'.cells.toArray 50 (0, 0)) ∧ a'.what = a.what ∧ a'.most = a.most ∧ a'.x.A = a.x.A ∧ a'.x.c = a.x.c ∧ a'.x.s.peers = a.x.s.peers ∧ a'.x.s.key.wf ∧ a'.x.s.out.wf ∧ Mod (fun j => j = xb) W wx)
        case first =>
          have hm1000 : m ≤ 1000000 := by have h1 := HB.out.1.len; have h2 := HB.out.2.1; have h3 := HW.out.2.2.2.2.1; omega
          cases b44 with
          | true => as_aux_lemma =>
            --<A
            have hm0 : 0 < m := by have h1 := HB44.out; simp at h1; exact h1.2
            have t0 : (0:Int) < m := by omega
            have hold : ∀ w', Mod No W w' → w'.cell? ⟨xb, 11, none⟩ = some (.int .i64 a.k) ∧ w'.cell? ⟨rb, 0, none⟩ = some (.slice AM m cm) := fun w' hw' => ⟨hw'.cell d11 id, hw'.cell c0 id⟩
            have HO := Lib.hid hold
            clear hold
            go_wp2_with fail
            go_region_held3 (fun w' => w'.cell? ⟨xb, 11, none⟩ = some (.int .i64 a.k) ∧ w'.cell? ⟨rb, 0, none⟩ = some (.slice AM m cm))
              ((refine HO.out _ ?_; repeat (first | with_reducible exact Mod.refl _ _ | refine Mod.drew ?_))) (first | (go_at_call 14; refine (place_ok _ a.k m hm0 (by omega)).mono ?_; rintro e w4 ⟨j, rfl, hj, rfl⟩))
            all_goals
              go_upto_region 12 with fail
              refine grab_w fun V hV => ?_
              have mV : Mod No W V := by rw [hV]; repeat (first | with_reducible exact Mod.refl _ _ | refine Mod.drew ?_)
              have hblk := mV.obj HW.out.2.1 (fun f => f)
              obtain ⟨z, hz⟩ : ∃ z, M[j]? = some z := ⟨_, List.getElem?_eq_getElem (by have := HW.out.2.2.2.2.1; omega)⟩
              obtain ⟨bm, om, rfl, hQ, hblt2, hcz⟩ := sv_at (HW.out.2.2.2.1.mod mV (fun _ _ f => f)) hz
              have c1 : V.cell? ⟨rb, 0, none⟩ = some (.slice (some ⟨bm, om, none⟩) m cm) := mV.cell c0 id
              have r0 := hcz 0 _ rfl
              have r1 := hcz 1 _ rfl
              have r2 := hcz 2 _ rfl
              rw [Nat.add_zero] at r0
              have e1 : V.cell? ⟨xb, 1, none⟩ = some (.int .u8 a.x.s.key.proto) := (blk_cell hblk 1).trans (by rw [HA.out.2.2.2]; rfl)
              have e2 : V.cell? ⟨xb, 2, none⟩ = some (.int .u32 a.x.s.key.pt.ip) := (blk_cell hblk 2).trans (by rw [HA.out.2.2.2]; rfl)
              have e3 : V.cell? ⟨xb, 3, none⟩ = some (.int .u16 a.x.s.key.pt.port) := (blk_cell hblk 3).trans (by rw [HA.out.2.2.2]; rfl)
              have f1 := blk_free hblk 1
              have f2 := blk_free hblk 2
              have f3 := blk_free hblk 3
              have j0 : (0:Int) ≤ j := by omega
              have j1 : (j:Int) < m := by omega
              have hUlt := HB.out.1.rtab.lt bm hQ.1
              have hxw := HW.out.2.2.2.2.2
              have n1 : bm ≠ xb := by omega
              have hzM := List.mem_of_getElem? hz
              have hzL : z.s ∈ L := HB.out.1.perm.mem_iff.1 (List.mem_map_of_mem hzM)
              have hzw : z.s.key.wf ∧ z.s.out.wf := by
                obtain ⟨S, hT, _⟩ := HB.out.1.tab
                exact ⟨(hT.wf _ hzL).1, (hT.wf _ hzL).2.1⟩
              have HZ := Lib.hid (And.intro hzw (And.intro mV (And.intro hblk hcz)))
              have zV : xb < V.heap.size := lt_of_block hblk
              have zr : rb < V.heap.size := Nat.lt_of_lt_of_le hrbl mV.size
              clear hV mV hblk hQ hcz hz hzM hzL hzw hUlt hxw c0 d11 hj
              go_upto_region 13 with fail
              refine grab_w fun X hX => ?_
              have mX : Mod (fun j => j = xb) V X := by
                rw [hX]
                exact ((Mod.setCell (F := fun j => j = xb) (p := ⟨xb, 1, none⟩) (Mod.refl _ V) (.inr rfl) _).setCell (p := ⟨xb, 2, none⟩) (.inr rfl) _).setCell (p := ⟨xb, 3, none⟩) (.inr rfl) _
              have hblk : X.heap[xb]? = some (.cells (Ac.mk a.what ⟨{ a.x.s with key := z.s.key }, a.x.A, a.x.c⟩ a.most a.k a.own).cells.toArray 50 (0, 0)) := by
                rw [hX]
                refine (heap_setCell_row (heap_setCell_row (heap_setCell_row HZ.out.2.2.1 _) _) _).trans ?_
                rw [HA.out.2.2.2]
                rfl
              have c2 : X.cell? ⟨rb, 0, none⟩ = some (.slice (some ⟨bm, om, none⟩) m cm) := mX.cell c1 (fun f => hne f)
              have r3 := mX.cell (HZ.out.2.2.2 3 _ rfl) (fun f => n1 f)
              have r4 := mX.cell (HZ.out.2.2.2 4 _ rfl) (fun f => n1 f)
              have g11 : X.cell? ⟨xb, 11, none⟩ = some (.int .i64 a.k) := (blk_cell hblk 11).trans rfl
              have g4 : X.cell? ⟨xb, 4, none⟩ = some (.int .u32 a.x.s.out.ip) := (blk_cell hblk 4).trans rfl
              have g5 : X.cell? ⟨xb, 5, none⟩ = some (.int .u16 a.x.s.out.port) := (blk_cell hblk 5).trans rfl
              have f4 := blk_free hblk 4
              have f5 := blk_free hblk 5
              have zX : xb < X.heap.size := lt_of_block hblk
              have zrX : rb < X.heap.size := Nat.lt_of_lt_of_le zr mX.size
              have HX := Lib.hid (And.intro mX hblk)
              clear hX mX hblk c1 r0 r1 r2 e1 e2 e3 f1 f2 f3
              obtain ⟨tk, htk⟩ : ∃ tk, a.k.tmod 2 = tk := ⟨_, rfl⟩
              by_cases hte : tk = 0
              · have te : (tk == 0) = true := by simpa using hte
                clear hte
                go_wp2_with fail
                go_meet
                refine ⟨Ac.mk a.what ⟨{ a.x.s with key := z.s.key, out := z.s.out }, a.x.A, a.x.c⟩ a.most a.k a.own, ?_, rfl, rfl, rfl, rfl, rfl, HZ.out.1.1, HZ.out.1.2, (HZ.out.2.1.mono (fun _ f => f.elim)).trans ?_⟩
                · refine (heap_setCell_row (heap_setCell_row HX.out.2 _) _).trans ?_
                  rfl
                · exact ((HX.out.1.setCell (p := ⟨xb, 4, none⟩) (.inr rfl) _).setCell (p := ⟨xb, 5, none⟩) (.inr rfl) _)
              · have te : (tk == 0) = false := by simpa using hte
                clear hte
                go_wp2_with fail
                go_meet
                exact ⟨Ac.mk a.what ⟨{ a.x.s with key := z.s.key }, a.x.A, a.x.c⟩ a.most a.k a.own, HX.out.2, rfl, rfl, rfl, rfl, rfl, HZ.out.1.1, HA.out.1.out, (HZ.out.2.1.mono (fun _ f => f.elim)).trans HX.out.1⟩
            -->A
          | false => as_aux_lemma =>
            go_wp2_with fail
            go_meet
            exact ⟨a, by rw [← HA.out.2.2.2]; exact HW.out.2.1, rfl, rfl, rfl, rfl, rfl, HA.out.1.key, HA.out.1.out, Mod.refl _ _⟩
        case rest => as_aux_lemma =>
          obtain ⟨a', hblk, hwhat, hmost, hA', hc', hp', hkw, how, hm⟩ := hcut
          have mwc : Mod No wr wc := HW.out.1.trans' hm (fun i hi f => by have f' : i = xb := f; have := HW.out.2.2.2.2.2; omega)
          have hBC := HB.out.1.mod mwc
          have hxT : ¬ Turns mb mo U xb := fun f => by have := (HB.out.1.turns xb f).2; have := HW.out.2.2.2.2.2; omega
          have hap : RowAt (fun b => b < w.heap.size) wc a'.x.A (ptCells a'.x.s.peers) := by rw [hA', hp']; exact HA.out.2.1.keeps (mwc.keeps (fun _ _ _ f => f))
          have hS0 : ∀ b, (fun b => b < w.heap.size) b → ¬ Turns mb mo U b := fun b hb f => by have := (HB.out.1.turns b f).1; have hb' : b < w.heap.size := hb; omega
          have hfew : a'.x.s.peers.length ≤ 65536 := by rw [hp']; have := HA.out.2.2.1; omega
          have hL6 : L.length ≤ 1000 := by have := HB.out.2.1; omega
          have d0 : wc.cell? ⟨xb, 0, none⟩ = some (.int .i64 a'.what) := (blk_cell hblk 0).trans rfl
          have d10 : wc.cell? ⟨xb, 10, none⟩ = some (.int .i64 a'.most) := (blk_cell hblk 10).trans rfl
          have zx : xb < wc.heap.size := lt_of_block hblk
          have HC := Lib.hid (And.intro hblk (And.intro mwc (And.intro hBC (And.intro hxT (And.intro hap (And.intro hS0 (And.intro hfew (And.intro hL6 (And.intro hkw how)))))))))
          clear hblk hwhat hmost hA' hc' hp' hkw how hm mwc hBC hxT hap hS0 hfew hL6 c0 d11 HW HB44 hne hcm
          apply_assumption
          obtain ⟨W0, hW0⟩ : ∃ W0, W0 = wc := ⟨_, rfl⟩
          subst hW0
          go_upto_block 2 with fail
          go_cut [] (fun wx => After w.heap.size tb mb mo rb U W0 L wx)
          case first =>
            go_upto_region 16 with fail
            go_cut [79] (fun s79 wx => s79 = .bool (a'.what == 0) ∧ W0 = wx)
            case first =>
              go_wp2_with fail
              go_meet
              exact ⟨rfl, rfl⟩
            case rest =>
            obtain ⟨rfl, rfl⟩ := hcut
            apply_assumption
            obtain ⟨badd, hbadd⟩ : ∃ badd, badd = (a'.what == 0 || (a'.what == 1 || a'.what == 2)) := ⟨_, rfl⟩
            have HBA := Lib.hid hbadd
            clear hbadd
            go_cut [79] (fun s79 wx => s79 = .bool badd ∧ W0 = wx)
            case first =>
              --<B
              cases h0 : a'.what == 0 with
              | true =>
                have e1 : badd = true := by rw [HBA.out, h0]; rfl
                have E1 := Lib.hid e1
                clear e1
                go_wp2_with fail
                go_meet
                exact ⟨by rw [E1.out], rfl⟩
              | false =>
                cases h1 : a'.what == 1 with
                | true =>
                  have e1 : badd = true := by rw [HBA.out, h0, h1]; rfl
                  have E1 := Lib.hid e1
                  clear e1
                  go_wp2_with fail
                  go_meet
                  exact ⟨by rw [E1.out], rfl⟩
                | false =>
                  have e1 : badd = (a'.what == 2) := by rw [HBA.out, h0, h1]; rfl
                  have E1 := Lib.hid e1
                  clear e1
                  go_wp2_with fail
                  go_meet
                  exact ⟨by rw [E1.out], rfl⟩
              -->B
            case rest =>
            obtain ⟨rfl, rfl⟩ := hcut
            apply_assumption
            have hblk := HC.out.1
            obtain ⟨xv, hxv⟩ : ∃ xv, xv = a'.x := ⟨_, rfl⟩
            have hxl : ∀ V, Mod (Turns mb mo U) W0 V → (ssLoad (.pointer (some ⟨xb, 1, none⟩))).run Try.prog V = .ok (.agg xv.cells.toArray) V := fun V hV => by
              refine ssLoad_mid V xb 1 xv (fun j v hj => ?_)
              refine (blk_cell (hV.obj hblk HC.out.2.2.2.1) (1 + j)).trans ?_
              have h9 : j < 9 := by have := (List.getElem?_eq_some_iff.1 hj).1; simpa [SV.cells] using this
              rw [hxv] at hj
              rw [← hj]
              rcases j with _ | _ | _ | _ | _ | _ | _ | _ | _ | j <;> first | rfl | omega
            have hxk : ∀ V, Mod (Turns mb mo U) W0 V → V.cell? ⟨xb, 1, none⟩ = some (.int .u8 xv.s.key.proto) ∧ V.cell? ⟨xb, 2, none⟩ = some (.int .u32 xv.s.key.pt.ip) ∧ V.cell? ⟨xb, 3, none⟩ = some (.int .u16 xv.s.key.pt.port) := fun V hV => by
              have hb := hV.obj hblk HC.out.2.2.2.1
              rw [hxv]
              exact ⟨(blk_cell hb 1).trans rfl, (blk_cell hb 2).trans rfl, (blk_cell hb 3).trans rfl⟩
            obtain ⟨CX, hCX⟩ : ∃ CX, CX = xv.cells.toArray := ⟨_, rfl⟩
            rw [← hCX] at hxl
            have HXL := Lib.hid hxl
            have HXK := Lib.hid hxk
            have HXV := Lib.hid (And.intro hxv hCX)
            have hnop : After w.heap.size tb mb mo rb U W0 L W0 := ⟨U, L, M, HC.out.2.2.1, by omega, Mod.refl _ _⟩
            have HNOP := Lib.hid hnop
            clear hblk hxv hxl hxk hCX hnop d0
            cases badd with
            | true => as_aux_lemma =>
              --<D
              have HAD : ∀ most V, Mod No W0 V → Calls Try.prog 7 #[.pointer (some ⟨tb, 0, none⟩), .agg CX, .int .i64 most] V fun e w1 => ∃ z, e = .returned (.int .i64 z) ∧ Mod (Turns mb mo U) W0 w1 ∧
                  ∀ w2, Mod No w1 w2 → Calls Try.prog 15 #[.pointer (some ⟨rb, 0, none⟩), .agg CX, .int .i64 most] w2 fun e w3 => e = .returned (.int .i64 z) ∧ After w.heap.size tb mb mo rb U W0 L w3 := fun most V hV => by
                have h1 := both_add (HC.out.2.2.1.mod hV) HC.out.2.2.2.2.2.2.2.1 a'.x.s a'.x.A a'.x.c HC.out.2.2.2.2.2.2.2.2.1 HC.out.2.2.2.2.2.2.2.2.2 (HC.out.2.2.2.2.1.keeps (hV.keeps (fun _ _ _ f => f))) HC.out.2.2.2.2.2.1 HC.out.2.2.2.2.2.2.1 most
                have hcx : (Value.agg CX) = a'.x.s.val a'.x.A a'.x.c := by rw [HXV.out.2, HXV.out.1]; rfl
                rw [hcx]
                refine h1.mono ?_
                rintro e w1 ⟨z, he, hm, hn⟩
                refine ⟨z, he, (hV.mono (fun _ f => f.elim)).trans hm, fun w2 hw2 => (hn w2 hw2).mono ?_⟩
                rintro e w3 ⟨he, _, U', L', M', q1, q2, q3⟩
                exact ⟨he, U', L', M', q1, q2, (hV.mono (fun _ f => f.elim)).trans q3⟩
              have HAD := Lib.hid HAD
              go_upto_region 20 with (go_at_call 14; refine (place_ok _ a'.most 20 (by omega) (by omega)).mono ?_; rintro e w4 ⟨j, rfl, hj, hw4⟩; have hw5 := hw4.symm; clear hw4; subst hw5)
              go_region_held3 (fun w' => (ssLoad (.pointer (some ⟨xb, 1, none⟩))).run Try.prog w' = .ok (.agg CX) w')
                ((refine HXL.out _ ?_; repeat (first | with_reducible exact Mod.refl _ _ | refine Mod.drew ?_ | exact hm3 | exact hm1)))
                (first
                  | (go_at_call 7; refine (HAD.out _ _ (by repeat (first | with_reducible exact Mod.refl _ _ | refine Mod.drew ?_))).mono ?_; rintro e w1 ⟨z, rfl, hm1, hn⟩; have HN := Lib.hid hn; clear hn)
                  | (go_at_call 15; refine (HN.out _ (by repeat (first | with_reducible exact Mod.refl _ _ | refine Mod.drew ?_))).mono ?_; rintro e w3 ⟨rfl, hAf⟩; have hm3 : Mod (Turns mb mo U) W0 w3 := (by obtain ⟨_, _, _, _, _, q⟩ := hAf; exact q); have HAF := Lib.hid hAf; clear hAf))
              all_goals
                go_wp2_with fail
                go_meet
                exact HAF.out
              -->D
            | false =>
              clear d10
              cases h5 : a'.what == 5 with
              | true => as_aux_lemma =>
                --<E
                have HAD : ∀ V, Mod No W0 V → Calls Try.prog 16 #[.pointer (some ⟨tb, 0, none⟩), .agg CX] V fun e w1 => ∃ z, e = .returned (.bool z) ∧ Mod (Turns mb mo U) W0 w1 ∧
                    ∀ w2, Mod No w1 w2 → Calls Try.prog 17 #[.pointer (some ⟨rb, 0, none⟩), .agg CX] w2 fun e w3 => e = .returned (.bool z) ∧ After w.heap.size tb mb mo rb U W0 L w3 := fun V hV => by
                  have h1 := both_put (HC.out.2.2.1.mod hV) HC.out.2.2.2.2.2.2.2.1 a'.x.s a'.x.A a'.x.c HC.out.2.2.2.2.2.2.2.2.1 (HC.out.2.2.2.2.1.keeps (hV.keeps (fun _ _ _ f => f))) HC.out.2.2.2.2.2.1 HC.out.2.2.2.2.2.2.1
                  have hcx : (Value.agg CX) = a'.x.s.val a'.x.A a'.x.c := by rw [HXV.out.2, HXV.out.1]; rfl
                  rw [hcx]
                  refine h1.mono ?_
                  rintro e w1 ⟨z, he, hm, hn⟩
                  refine ⟨z, he, (hV.mono (fun _ f => f.elim)).trans hm, fun w2 hw2 => (hn w2 hw2).mono ?_⟩
                  rintro e w3 ⟨he, _, U', L', M', q1, q2, q3⟩
                  exact ⟨he, U', L', M', q1, q2, (hV.mono (fun _ f => f.elim)).trans q3⟩
                have HAD := Lib.hid HAD
                go_wp2_with fail
                go_region_held3 (fun w' => (ssLoad (.pointer (some ⟨xb, 1, none⟩))).run Try.prog w' = .ok (.agg CX) w')
                  ((refine HXL.out _ ?_; repeat (first | with_reducible exact Mod.refl _ _ | refine Mod.drew ?_ | exact hm3 | exact hm1)))
                  (first
                    | (go_at_call 16; refine (HAD.out _ (by repeat (first | with_reducible exact Mod.refl _ _ | refine Mod.drew ?_))).mono ?_; rintro e w1 ⟨z, rfl, hm1, hn⟩; have HN := Lib.hid hn; clear hn)
                    | (go_at_call 17; refine (HN.out _ (by repeat (first | with_reducible exact Mod.refl _ _ | refine Mod.drew ?_))).mono ?_; rintro e w3 ⟨rfl, hAf⟩; have hm3 : Mod (Turns mb mo U) W0 w3 := (by obtain ⟨_, _, _, _, _, q⟩ := hAf; exact q); have HAF := Lib.hid hAf; clear hAf))
                all_goals
                  go_wp2_with fail
                  go_meet
                  exact HAF.out
                -->E
              | false =>
                cases h6 : a'.what == 6 with
                | true => as_aux_lemma =>
                  --<F
                  have HAD : ∀ V, Mod No W0 V → Calls Try.prog 18 #[.pointer (some ⟨tb, 0, none⟩), .agg #[.int .u8 xv.s.key.proto, .int .u32 xv.s.key.pt.ip, .int .u16 xv.s.key.pt.port]] V fun e w1 => ∃ z, e = .returned (.bool z) ∧ Mod (Turns mb mo U) W0 w1 ∧
                      ∀ w2, Mod No w1 w2 → Calls Try.prog 19 #[.pointer (some ⟨rb, 0, none⟩), .agg #[.int .u8 xv.s.key.proto, .int .u32 xv.s.key.pt.ip, .int .u16 xv.s.key.pt.port]] w2 fun e w3 => e = .returned (.bool z) ∧ After w.heap.size tb mb mo rb U W0 L w3 := fun V hV => by
                    have h1 := both_drop (HC.out.2.2.1.mod hV) HC.out.2.2.2.2.2.2.2.1 a'.x.s.key HC.out.2.2.2.2.2.2.2.2.1
                    rw [HXV.out.1]
                    refine h1.mono ?_
                    rintro e w1 ⟨z, he, hm, hn⟩
                    refine ⟨z, he, (hV.mono (fun _ f => f.elim)).trans hm, fun w2 hw2 => (hn w2 hw2).mono ?_⟩
                    rintro e w3 ⟨he, _, U', L', M', q1, q2, q3⟩
                    exact ⟨he, U', L', M', q1, q2, (hV.mono (fun _ f => f.elim)).trans q3⟩
                  have HAD := Lib.hid HAD
                  go_wp2_with fail
                  go_region_held3 (fun w' => w'.cell? ⟨xb, 1, none⟩ = some (.int .u8 xv.s.key.proto) ∧ w'.cell? ⟨xb, 2, none⟩ = some (.int .u32 xv.s.key.pt.ip) ∧ w'.cell? ⟨xb, 3, none⟩ = some (.int .u16 xv.s.key.pt.port))
                    ((refine HXK.out _ ?_; repeat (first | with_reducible exact Mod.refl _ _ | refine Mod.drew ?_ | exact hm3 | exact hm1)))
                    (first
                      | (go_at_call 18; refine (HAD.out _ (by repeat (first | with_reducible exact Mod.refl _ _ | refine Mod.drew ?_))).mono ?_; rintro e w1 ⟨z, rfl, hm1, hn⟩; have HN := Lib.hid hn; clear hn)
                      | (go_at_call 19; refine (HN.out _ (by repeat (first | with_reducible exact Mod.refl _ _ | refine Mod.drew ?_))).mono ?_; rintro e w3 ⟨rfl, hAf⟩; have hm3 : Mod (Turns mb mo U) W0 w3 := (by obtain ⟨_, _, _, _, _, q⟩ := hAf; exact q); have HAF := Lib.hid hAf; clear hAf))
                  all_goals
                    go_wp2_with fail
                    go_meet
                    exact HAF.out
                  -->F
                | false => as_aux_lemma =>
                  go_wp2_with fail
                  go_meet
                  exact HNOP.out
          case rest =>
            obtain ⟨U', L', M', hB', hL', hmT⟩ := hcut
            obtain ⟨Z0, hZ0⟩ : ∃ Z0, Z0 = wc := ⟨_, rfl⟩
            subst hZ0
            have hblk := hmT.obj HC.out.1 HC.out.2.2.2.1
            have hL100 : L'.length ≤ 1000 := by have := HB.out.2.1; omega
            have hM100 : M'.length ≤ 1000 := by have := hB'.len; omega
            obtain ⟨S', hT', _⟩ := hB'.tab
            obtain ⟨AM', cm', _, hrbb, _, _, _, hrowM, hpM⟩ := hB'.rtab.blk
            obtain ⟨m', hm'⟩ : ∃ m', m' = M'.length := ⟨_, rfl⟩
            rw [← hm'] at hrbb
            have hlenT : L'.length = m' := by have := hB'.len; omega
            obtain ⟨q, hq⟩ : ∃ q, q = a'.x.s.key := ⟨_, rfl⟩
            obtain ⟨y, hy⟩ : ∃ y, y = a'.x.s.out := ⟨_, rfl⟩
            have hqw : q.wf := by rw [hq]; exact HC.out.2.2.2.2.2.2.2.2.1
            have hyw : y.wf := by rw [hy]; exact HC.out.2.2.2.2.2.2.2.2.2
            obtain ⟨r1, hr1⟩ : ∃ r1, r1 = L'.find? (fun s => s.key = q) := ⟨_, rfl⟩
            obtain ⟨r2, hr2⟩ : ∃ r2, r2 = L'.find? (fun s => s.of = (Key.mk q.proto y)) := ⟨_, rfl⟩
            obtain ⟨b1, hb1⟩ : ∃ b1, b1 = r1.isSome := ⟨_, rfl⟩
            obtain ⟨b2, hb2⟩ : ∃ b2, b2 = r2.isSome := ⟨_, rfl⟩
            have few1 : (r1.getD .zero).peers.length ≤ 65536 := by
              cases hr : r1 with
              | none => exact Nat.zero_le _
              | some x => exact (hT'.wf x (List.mem_of_find?_eq_some (hr1.symm.trans hr))).2.2
            have few2 : (r2.getD .zero).peers.length ≤ 65536 := by
              cases hr : r2 with
              | none => exact Nat.zero_le _
              | some x => exact (hT'.wf x (List.mem_of_find?_eq_some (hr2.symm.trans hr))).2.2
            have cTF : ∀ V, Mod No Z0 V → Calls Try.prog 8 #[.pointer (some ⟨tb, 0, none⟩), .agg #[.int .u8 q.proto, .int .u32 q.pt.ip, .int .u16 q.pt.port]] V fun e w' => ∃ x : SV, e = .returned (.tuple #[.agg x.cells.toArray, .bool b1]) ∧ x.s = r1.getD .zero ∧ RowAt (fun _ => True) w' x.A (ptCells x.s.peers) ∧ Mod No V w' := fun V hV => by
              refine (find_ok (hT'.mod hV) q hqw).mono ?_
              rintro e w' ⟨v, rfl, hv, hm⟩
              obtain ⟨A', c', rfl, hrow⟩ := hv.val
              rw [← hr1, ← hb1]
              rw [← hr1] at hrow
              exact ⟨⟨_, A', c'⟩, rfl, rfl, hrow.mono (fun _ _ _ => trivial), hm⟩
            have cRF : ∀ V, Mod No Z0 V → Calls Try.prog 20 #[.pointer (some ⟨rb, 0, none⟩), .agg #[.int .u8 q.proto, .int .u32 q.pt.ip, .int .u16 q.pt.port]] V fun e w' => ∃ x : SV, e = .returned (.tuple #[.agg x.cells.toArray, .bool b1]) ∧ x.s = r1.getD .zero ∧ RowAt (fun _ => True) w' x.A (ptCells x.s.peers) ∧ Mod No V w' := fun V hV => by
              refine (rfind_ok (hB'.rtab.mod hV (fun _ _ f => f)) (by omega) q).mono ?_
              rintro e w' ⟨A', c', rfl, hrow, hm⟩
              rw [hB'.key, ← hr1] at hrow ⊢
              rw [← hb1]
              exact ⟨⟨_, A', c'⟩, rfl, rfl, hrow.mono (fun _ _ _ => trivial), hm⟩
            have cTO : ∀ V, Mod No Z0 V → Calls Try.prog 11 #[.pointer (some ⟨tb, 0, none⟩), .int .u8 q.proto, .agg #[.int .u32 y.ip, .int .u16 y.port]] V fun e w' => ∃ x : SV, e = .returned (.tuple #[.agg x.cells.toArray, .bool b2]) ∧ x.s = r2.getD .zero ∧ RowAt (fun _ => True) w' x.A (ptCells x.s.peers) ∧ Mod No V w' := fun V hV => by
              refine (out_ok (hT'.mod hV) (Key.mk q.proto y) ⟨hqw.proto, hyw⟩).mono ?_
              rintro e w' ⟨v, rfl, hv, hm⟩
              obtain ⟨A', c', rfl, hrow⟩ := hv.val
              rw [← hr2, ← hb2]
              rw [← hr2] at hrow
              exact ⟨⟨_, A', c'⟩, rfl, rfl, hrow.mono (fun _ _ _ => trivial), hm⟩
            have cRO : ∀ V, Mod No Z0 V → Calls Try.prog 21 #[.pointer (some ⟨rb, 0, none⟩), .int .u8 q.proto, .agg #[.int .u32 y.ip, .int .u16 y.port]] V fun e w' => ∃ x : SV, e = .returned (.tuple #[.agg x.cells.toArray, .bool b2]) ∧ x.s = r2.getD .zero ∧ RowAt (fun _ => True) w' x.A (ptCells x.s.peers) ∧ Mod No V w' := fun V hV => by
              refine (rout_ok (hB'.rtab.mod hV (fun _ _ f => f)) (by omega) (Key.mk q.proto y)).mono ?_
              rintro e w' ⟨A', c', rfl, hrow, hm⟩
              rw [hB'.ofs, ← hr2] at hrow ⊢
              rw [← hb2]
              exact ⟨⟨_, A', c'⟩, rfl, rfl, hrow.mono (fun _ _ _ => trivial), hm⟩
            have cAL : ∀ V, Mod No Z0 V → Calls Try.prog 10 #[.pointer (some ⟨tb, 0, none⟩)] V fun e w' => ∃ A' c', e = .returned (.slice A' m' c') ∧ Mod No V w' ∧ ∀ V', Mod No w' V' → Calls Try.prog 23 #[.slice A' m' c', .slice AM' m' cm'] V' fun e w'' => e = .returned (.bool true) ∧ Mod No V' w'' := fun V hV => by
              refine (all_ok (hT'.mod hV) (by omega)).mono ?_
              rintro e w' ⟨v, l', rfl, hol, hl', hm⟩
              rw [allOf_eq hB'.perm hB'.srt] at hl'
              have hll : l'.length = m' := by have h1 := congrArg List.length hl'; simp at h1; omega
              obtain ⟨A', c', rfl, _, hrow, hR⟩ := hol.open
              have hR1 : ∀ x ∈ l', OwnP 0 w' x.A x.c x.s.peers := fun x hx => (hR x hx).1
              have hfl : ∀ x ∈ l', x.s.peers.length ≤ 65536 := fun x hx => by
                have h1 : x.s ∈ M'.map (·.s) := by rw [← hl']; exact List.mem_map_of_mem hx
                obtain ⟨z, hz, hzx⟩ := List.mem_map.1 h1
                rw [← hzx]
                exact hB'.rtab.few z hz
              rw [hll]
              refine ⟨A', c', rfl, hm, fun V' hV' => ?_⟩
              have m0 := (hV.trans hm).trans hV'
              refine (sessions_ok (S := fun _ => True) (S' := fun _ => True) (xs := l') (ys := M') (show RowAt (fun _ => True) V' A' (svCells l') from (hrow.keeps (hV'.keeps (fun _ _ _ f => f))).mono (fun _ _ _ => trivial)) (((hrowM.mod m0 (fun _ _ f => f)).row).mono (fun _ _ _ => trivial)) (fun x hx => ((hR1 x hx).row.keeps (hV'.keeps (fun _ _ _ f => f))).mono (fun _ _ _ => trivial)) (fun x hx => ((hpM x hx).keeps (m0.keeps (fun _ _ _ f => f))).mono (fun _ _ _ => trivial)) hfl hl' (by omega) (by omega)).mono ?_
              rintro e w'' ⟨rfl, hm2⟩
              exact ⟨rfl, hm2⟩
            have cLE : ∀ V, Mod No Z0 V → Calls Try.prog 24 #[.pointer (some ⟨tb, 0, none⟩)] V fun e w' => e = .returned (.int .i64 m') ∧ Mod No V w' := fun V hV => by
              refine (len_ok (hT'.mod hV)).mono ?_
              rintro e w' ⟨rfl, rfl⟩
              rw [hlenT]
              exact ⟨rfl, Mod.refl _ _⟩
            have hk15 : ∀ V, Mod No Z0 V → V.cell? ⟨xb, 1, none⟩ = some (.int .u8 q.proto) ∧ V.cell? ⟨xb, 2, none⟩ = some (.int .u32 q.pt.ip) ∧ V.cell? ⟨xb, 3, none⟩ = some (.int .u16 q.pt.port) ∧ V.cell? ⟨xb, 4, none⟩ = some (.int .u32 y.ip) ∧ V.cell? ⟨xb, 5, none⟩ = some (.int .u16 y.port) ∧ xb < V.heap.size := fun V hV => by
              have hb := hV.obj hblk (fun f => f)
              rw [hq, hy]
              exact ⟨(blk_cell hb 1).trans rfl, (blk_cell hb 2).trans rfl, (blk_cell hb 3).trans rfl, (blk_cell hb 4).trans rfl, (blk_cell hb 5).trans rfl, lt_of_block hb⟩
            have hend : ∀ V, Mod No Z0 V → PlAt w tb mb mo rb (k + 1) V := fun V hV => by
              refine ⟨U', L', M', hB'.mod hV, by have := HB.out.2.1; omega, ?_⟩
              have h1 : Mod No w W0 := HB.out.2.2.trans HC.out.2.1
              exact (h1.trans' hmT (fun i hi f => by have := (HB.out.1.turns i f).1; omega)).trans hV
            have hcr : ∀ V, Mod No Z0 V → V.cell? ⟨rb, 0, none⟩ = some (.slice AM' m' cm') := fun V hV => (blk_cell (hV.obj hrbb (fun f => f)) 0).trans rfl
            have h_same : ∀ (x z : SV) V, x.s = z.s → x.s.peers.length ≤ 65536 → RowAt (fun _ => True) V x.A (ptCells x.s.peers) → RowAt (fun _ => True) V z.A (ptCells z.s.peers) → Calls Try.prog 22 #[.agg x.cells.toArray, .agg z.cells.toArray] V fun e w' => e = .returned (.bool true) ∧ Mod No V w' := fun x z V he hfw hrx hrz => by
              have h1 := helpSess_ok x.s z.s x.A z.A x.c z.c V hrx hrz hfw
              rw [show decide (x.s = z.s) = true by simpa using he] at h1
              exact h1
            have KTF := Lib.hid cTF
            have KRF := Lib.hid cRF
            have KTO := Lib.hid cTO
            have KRO := Lib.hid cRO
            have KAL := Lib.hid cAL
            have KLE := Lib.hid cLE
            have KK := Lib.hid hk15
            have KEND := Lib.hid hend
            have KCR := Lib.hid hcr
            have KSM := Lib.hid h_same
            have KF := Lib.hid (And.intro few1 few2)
            have hzl : ∀ (v : World) (x : SV), (ssStore (.pointer (some ⟨v.heap.size, 0, none⟩)) (.agg x.cells.toArray)).run Try.prog (v.alloc (.cells zSsL.toArray 35)) = .ok () (v.alloc (.cells x.cells.toArray 35)) := fun v x => ssStore_new v _ rfl (SV.one x)
            have KZ := Lib.hid hzl
            clear hB' hL' hmT hblk hL100 hM100 hT' hrbb hrowM hpM hm' hlenT hq hy hqw hyw hr1 hr2 hb1 hb2 few1 few2 cTF cRF cTO cRO cAL cLE hk15 hend hcr h_same hzl HA HC
            have hal := ssAlloc_run
            obtain ⟨d1, d2, d3, d4, d5, zx0⟩ := KK.out Z0 (Mod.refl _ _)
            apply_assumption
            go_upto_region 29 with (go_at_call 8; refine (KTF.out _ (Mod.refl _ _)).mono ?_; rintro e v1 ⟨x1, rfl, hs, hrow, hm⟩; have hst := KZ.out v1 x1; obtain ⟨C1, hC⟩ : ∃ C, C = x1.cells.toArray := ⟨_, rfl⟩; rw [← hC] at hst ⊢; have H1 := Lib.hid (And.intro hs (And.intro hrow (And.intro hm hC))); clear hs hrow hm hC)
            refine grab_w fun V1 hV => ?_
            obtain ⟨p1, hp⟩ : ∃ p, p = v1.heap.size := ⟨_, rfl⟩
            rw [← hp]
            have hmv : Mod No v1 V1 := by rw [hV]; exact (Mod.refl _ _).alloc _
            have hbl : V1.heap[p1]? = some (.cells C1 35 (0, 0)) := by rw [hV, hp]; exact at10 _ _
            have G1 := Lib.hid (And.intro ((H1.out.2.2.1.trans hmv)) (And.intro hmv (And.intro hbl (H1.out.2.2.1.trans hmv))))
            clear hV hp hmv hbl hst d1 d2 d3 d4 d5 zx0
            obtain ⟨d1, d2, d3, d4, d5, zx0⟩ := KK.out V1 G1.out.1
            go_upto_region 30 with (go_at_call 20; refine (KRF.out _ G1.out.1).mono ?_; rintro e v2 ⟨x2, rfl, hs, hrow, hm⟩; have hst := KZ.out v2 x2; obtain ⟨C2, hC⟩ : ∃ C, C = x2.cells.toArray := ⟨_, rfl⟩; rw [← hC] at hst ⊢; have H2 := Lib.hid (And.intro hs (And.intro hrow (And.intro hm hC))); clear hs hrow hm hC)
            refine grab_w fun V2 hV => ?_
            obtain ⟨p2, hp⟩ : ∃ p, p = v2.heap.size := ⟨_, rfl⟩
            rw [← hp]
            have hmv : Mod No v2 V2 := by rw [hV]; exact (Mod.refl _ _).alloc _
            have hbl : V2.heap[p2]? = some (.cells C2 35 (0, 0)) := by rw [hV, hp]; exact at10 _ _
            have G2 := Lib.hid (And.intro (G1.out.1.trans (H2.out.2.2.1.trans hmv)) (And.intro hmv (And.intro hbl (H2.out.2.2.1.trans hmv))))
            clear hV hp hmv hbl hst d1 d2 d3 d4 d5 zx0
            obtain ⟨d1, d2, d3, d4, d5, zx0⟩ := KK.out V2 G2.out.1
            go_upto_region 31 with (go_at_call 11; refine (KTO.out _ G2.out.1).mono ?_; rintro e v3 ⟨x3, rfl, hs, hrow, hm⟩; have hst := KZ.out v3 x3; obtain ⟨C3, hC⟩ : ∃ C, C = x3.cells.toArray := ⟨_, rfl⟩; rw [← hC] at hst ⊢; have H3 := Lib.hid (And.intro hs (And.intro hrow (And.intro hm hC))); clear hs hrow hm hC)
            refine grab_w fun V3 hV => ?_
            obtain ⟨p3, hp⟩ : ∃ p, p = v3.heap.size := ⟨_, rfl⟩
            rw [← hp]
            have hmv : Mod No v3 V3 := by rw [hV]; exact (Mod.refl _ _).alloc _
            have hbl : V3.heap[p3]? = some (.cells C3 35 (0, 0)) := by rw [hV, hp]; exact at10 _ _
            have G3 := Lib.hid (And.intro (G2.out.1.trans (H3.out.2.2.1.trans hmv)) (And.intro hmv (And.intro hbl (H3.out.2.2.1.trans hmv))))
            clear hV hp hmv hbl hst d1 d2 d3 d4 d5 zx0
            obtain ⟨d1, d2, d3, d4, d5, zx0⟩ := KK.out V3 G3.out.1
            go_upto_region 32 with (go_at_call 21; refine (KRO.out _ G3.out.1).mono ?_; rintro e v4 ⟨x4, rfl, hs, hrow, hm⟩; have hst := KZ.out v4 x4; obtain ⟨C4, hC⟩ : ∃ C, C = x4.cells.toArray := ⟨_, rfl⟩; rw [← hC] at hst ⊢; have H4 := Lib.hid (And.intro hs (And.intro hrow (And.intro hm hC))); clear hs hrow hm hC)
            refine grab_w fun V4 hV => ?_
            obtain ⟨p4, hp⟩ : ∃ p, p = v4.heap.size := ⟨_, rfl⟩
            rw [← hp]
            have hmv : Mod No v4 V4 := by rw [hV]; exact (Mod.refl _ _).alloc _
            have hbl : V4.heap[p4]? = some (.cells C4 35 (0, 0)) := by rw [hV, hp]; exact at10 _ _
            have G4 := Lib.hid (And.intro (G3.out.1.trans (H4.out.2.2.1.trans hmv)) (And.intro hmv (And.intro hbl (H4.out.2.2.1.trans hmv))))
            clear hV hp hmv hbl hst d1 d2 d3 d4 d5 zx0
            obtain ⟨d1, d2, d3, d4, d5, zx0⟩ := KK.out V4 G4.out.1
            have m24 : Mod No V1 V4 := (G2.out.2.2.2.trans G3.out.2.2.2).trans G4.out.2.2.2
            have m34 : Mod No V2 V4 := G3.out.2.2.2.trans G4.out.2.2.2
            have hold : ∀ w', Mod No V4 w' → (ssLoad (.pointer (some ⟨p1, 0, none⟩))).run Try.prog w' = .ok (.agg C1) w' ∧ (ssLoad (.pointer (some ⟨p2, 0, none⟩))).run Try.prog w' = .ok (.agg C2) w' ∧ (ssLoad (.pointer (some ⟨p3, 0, none⟩))).run Try.prog w' = .ok (.agg C3) w' ∧ (ssLoad (.pointer (some ⟨p4, 0, none⟩))).run Try.prog w' = .ok (.agg C4) w' ∧ w'.cell? ⟨rb, 0, none⟩ = some (.slice AM' m' cm') := fun w' hw' =>
              ⟨ssLoad_run ((m24.trans hw').obj G1.out.2.2.1 (fun f => f)) (by rw [H1.out.2.2.2]; rfl), ssLoad_run ((m34.trans hw').obj G2.out.2.2.1 (fun f => f)) (by rw [H2.out.2.2.2]; rfl), ssLoad_run ((G4.out.2.2.2.trans hw').obj G3.out.2.2.1 (fun f => f)) (by rw [H3.out.2.2.2]; rfl), ssLoad_run (hw'.obj G4.out.2.2.1 (fun f => f)) (by rw [H4.out.2.2.2]; rfl), KCR.out w' (G4.out.1.trans hw')⟩
            have hsame1 : ∀ V, Mod No V4 V → Calls Try.prog 22 #[.agg C1, .agg C2] V fun e w' => e = .returned (.bool true) ∧ Mod No V4 w' := fun V hV => by
              rw [H1.out.2.2.2, H2.out.2.2.2]
              refine (KSM.out x1 x2 V (H1.out.1.trans H2.out.1.symm) (by rw [H1.out.1]; exact KF.out.1) (H1.out.2.1.keeps (((G1.out.2.1.trans m24).trans hV).keeps (fun _ _ _ f => f))) (H2.out.2.1.keeps (((G2.out.2.1.trans m34).trans hV).keeps (fun _ _ _ f => f)))).mono ?_
              rintro e w' ⟨he, hm⟩
              exact ⟨he, hV.trans hm⟩
            have hsame2 : ∀ V, Mod No V4 V → Calls Try.prog 22 #[.agg C3, .agg C4] V fun e w' => e = .returned (.bool true) ∧ Mod No V4 w' := fun V hV => by
              rw [H3.out.2.2.2, H4.out.2.2.2]
              refine (KSM.out x3 x4 V (H3.out.1.trans H4.out.1.symm) (by rw [H3.out.1]; exact KF.out.2) (H3.out.2.1.keeps (((G3.out.2.1.trans G4.out.2.2.2).trans hV).keeps (fun _ _ _ f => f))) (H4.out.2.1.keeps ((G4.out.2.1.trans hV).keeps (fun _ _ _ f => f)))).mono ?_
              rintro e w' ⟨he, hm⟩
              exact ⟨he, hV.trans hm⟩
            have hall : ∀ V, Mod No V4 V → Calls Try.prog 10 #[.pointer (some ⟨tb, 0, none⟩)] V fun e w' => ∃ A' c', e = .returned (.slice A' m' c') ∧ Mod No V4 w' ∧ ∀ V', Mod No w' V' → Calls Try.prog 23 #[.slice A' m' c', .slice AM' m' cm'] V' fun e w'' => e = .returned (.bool true) ∧ Mod No V4 w'' := fun V hV => by
              refine (KAL.out V (G4.out.1.trans hV)).mono ?_
              rintro e w' ⟨A', c', he, hm, hn⟩
              refine ⟨A', c', he, hV.trans hm, fun V' hV' => (hn V' hV').mono ?_⟩
              rintro e w'' ⟨he, hm2⟩
              exact ⟨he, ((hV.trans hm).trans hV').trans hm2⟩
            have hlen : ∀ V, Mod No V4 V → Calls Try.prog 24 #[.pointer (some ⟨tb, 0, none⟩)] V fun e w' => e = .returned (.int .i64 m') ∧ Mod No V4 w' := fun V hV => by
              refine (KLE.out V (G4.out.1.trans hV)).mono ?_
              rintro e w' ⟨he, hm⟩
              exact ⟨he, hV.trans hm⟩
            have HO := Lib.hid hold
            have HS1 := Lib.hid hsame1
            have HS2 := Lib.hid hsame2
            have HALL := Lib.hid hall
            have HLEN := Lib.hid hlen
            clear hold hsame1 hsame2 hall hlen d1 d2 d3 d4 d5 zx0 m24 m34
            have tk1 := Lib.hid True.intro
            go_region_held3 (fun w' => (ssLoad (.pointer (some ⟨p1, 0, none⟩))).run Try.prog w' = .ok (.agg C1) w' ∧ (ssLoad (.pointer (some ⟨p2, 0, none⟩))).run Try.prog w' = .ok (.agg C2) w' ∧ (ssLoad (.pointer (some ⟨p3, 0, none⟩))).run Try.prog w' = .ok (.agg C3) w' ∧ (ssLoad (.pointer (some ⟨p4, 0, none⟩))).run Try.prog w' = .ok (.agg C4) w' ∧ w'.cell? ⟨rb, 0, none⟩ = some (.slice AM' m' cm'))
              ((refine HO.out _ ?_; repeat (first | with_reducible exact Mod.refl _ _ | refine Mod.drew ?_ | with_reducible exact hs5 | with_reducible exact hs4 | with_reducible exact hs3 | with_reducible exact hs2 | with_reducible exact hs1)))
              (first
                | (go_at_call 22; clear tk1; refine (HS1.out _ (by repeat (first | with_reducible exact Mod.refl _ _ | refine Mod.drew ?_ | with_reducible exact hs5 | with_reducible exact hs4 | with_reducible exact hs3 | with_reducible exact hs2 | with_reducible exact hs1))).mono ?_; rintro e u1 ⟨rfl, hs1⟩)
                | (go_at_call 22; refine (HS2.out _ (by repeat (first | with_reducible exact Mod.refl _ _ | refine Mod.drew ?_ | with_reducible exact hs5 | with_reducible exact hs4 | with_reducible exact hs3 | with_reducible exact hs2 | with_reducible exact hs1))).mono ?_; rintro e u2 ⟨rfl, hs2⟩)
                | (go_at_call 10; refine (HALL.out _ (by repeat (first | with_reducible exact Mod.refl _ _ | refine Mod.drew ?_ | with_reducible exact hs5 | with_reducible exact hs4 | with_reducible exact hs3 | with_reducible exact hs2 | with_reducible exact hs1))).mono ?_; rintro e u3 ⟨A', c', rfl, hs3, hn⟩; have HN := Lib.hid hn; clear hn)
                | (go_at_call 23; refine (HN.out _ (by repeat (first | with_reducible exact Mod.refl _ _ | refine Mod.drew ?_))).mono ?_; rintro e u4 ⟨rfl, hs4⟩)
                | (go_at_call 24; refine (HLEN.out _ (by repeat (first | with_reducible exact Mod.refl _ _ | refine Mod.drew ?_ | with_reducible exact hs5 | with_reducible exact hs4 | with_reducible exact hs3 | with_reducible exact hs2 | with_reducible exact hs1))).mono ?_; rintro e u5 ⟨rfl, hs5⟩))
            all_goals
              go_wp2_with fail
              exact ⟨⟨k + 1, by go_num, by omega, KEND.out _ (G4.out.1.trans hs5)⟩, by simp [intOf]; omega⟩
      · as_aux_lemma =>
        have hkn' : k = n := by omega
        subst hkn'
        go_wp2_with fail
        go_ret
        obtain ⟨_, _, _, _, _, hm⟩ := HR.out
        exact ⟨rfl, hm⟩
  · have hd : decide (LightL l) = false := decide_eq_false hL
    rw [hd] at HLI
    clear hL hd
    go_enter Try.func4, Try.ntmps4
    go_wp2_with (first
      | (go_at_call 5; refine (HKN.out _).mono ?_; rintro e w1 ⟨rfl, hm⟩; have HM1 := Lib.hid hm; clear hm)
      | (go_at_call 13; refine (HLI.out _ HM1.out).mono ?_; rintro e w2 ⟨rfl, hm⟩; have HM2 := Lib.hid (HM1.out.trans hm); clear hm))
    go_ret
    exact ⟨rfl, HM2.out⟩

end Go.Proofs.Ytimbhkbdmcbodaa
