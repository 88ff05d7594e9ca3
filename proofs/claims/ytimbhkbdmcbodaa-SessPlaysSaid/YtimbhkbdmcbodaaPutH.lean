/-
  Table.Put at a key that is there.
-/
import Derived.Test.YtimbhkbdmcbodaaSessL
namespace Go.Proofs.Ytimbhkbdmcbodaa
open Go.RowKit Go.MapKept Go.ChangeMaps
set_option linter.unusedVariables false

set_option maxHeartbeats 4000000 in
theorem put_hit_ok {S S0 : Nat → Prop} {w : World} {tb mb mo : Nat} {L : List Sess} (h : Tab w tb mb mo S L) (s : Sess) (A : Option Addr) (cc : Nat) (x : Sess) (j : Nat) (hj : L[j]? = some x) (hkey : x.key = s.key) (hx : RowAt S0 w A (ptCells s.peers)) (hpl : s.peers.length ≤ 65536) :
    Calls Try.prog 16 #[.pointer (some ⟨tb, 0, none⟩), s.val A cc] w fun e w' => e = .returned (.bool true) ∧ Mod (fun b => b = mb) w w' ∧ ∃ S', (∀ b, S' b → S b ∨ (w.heap.size ≤ b ∧ b < w'.heap.size)) ∧ Tab w' tb mb mo S' (L.set j { s with out := x.out }) := by
  have hmem := List.mem_of_getElem? hj
  have hk : s.key.wf := hkey ▸ (h.wf x hmem).1
  have hfs := h.find_self hmem
  rw [hkey] at hfs
  obtain ⟨es, c, hb, hst, hall⟩ := h.byKey
  obtain ⟨x', B, d, hx1, hx2, hx3, hl1⟩ := by_lookup h s.key hk hb
  rw [hfs] at hl1 hx1
  obtain rfl : x' = x := hx1
  simp only [Option.isSome_some] at hl1
  obtain ⟨kl, hkl⟩ := keyOfKey s.key hk
  obtain ⟨e0, he0, hr0⟩ := hall.get hj
  have hup := mapUpdate_hit (b := mb) keyedKey Try.underlying61 hst (keysOk_by hall h.wf) hkl (j := j) (by simpa using he0) (by rw [hr0.1, hkey])
  have hlt := lt_of_block h.row
  have hlt' := lt_of_block hb
  have c0 : w.cell? ⟨tb, 0, none⟩ = some (.map (some mb)) := (blk_cell h.row 0).trans rfl
  have hold : ∀ w', Mod No (w.alloc (.cells #[.int .u8 s.key.proto, .int .u32 s.key.pt.ip, .int .u16 s.key.pt.port, .int .u32 s.out.ip, .int .u16 s.out.port, .int .u32 s.gen, .slice A s.peers.length cc, .int .i64 s.state, .int .u32 s.til] 35)) w' → w'.cell? ⟨tb, 0, none⟩ = some (.map (some mb)) ∧ w'.heap[mb]? = some (.map es c) ∧ w'.cell? ⟨w.heap.size, 0, none⟩ = some (.int .u8 s.key.proto) ∧ w'.cell? ⟨w.heap.size, 1, none⟩ = some (.int .u32 s.key.pt.ip) ∧ w'.cell? ⟨w.heap.size, 2, none⟩ = some (.int .u16 s.key.pt.port) := by
    intro w' hm
    have B := hm.obj (at10 w _) id
    have hm' := ((Mod.refl No w).alloc _).trans hm
    exact ⟨hm'.cell c0 id, hm'.obj hb id, (blk_cell B 0).trans rfl, (blk_cell B 1).trans rfl, (blk_cell B 2).trans rfl⟩
  have HO := Lib.hid hold
  have HUP := Lib.hid hup
  have HH := Lib.hid (And.intro h (And.intro hb (And.intro hj (And.intro hkey (And.intro hx hpl)))))
  clear hst hall hx2 hx3 h hfs hj hkl he0 hr0 hold hup hk hmem hb hx hpl hkey
  unfold Key.val Sess.val at *
  go_enter Try.func16, Try.ntmps16
  go_upto_region 1 with fail
  go_cut [5, 6] (fun s5 s6 wx => s5 = .pointer (some ⟨w.heap.size + 1, 0, none⟩) ∧ s6 = .bool true ∧ wx.heap[w.heap.size + 1]? = some (.cells #[.int .u8 x'.key.proto, .int .u32 x'.key.pt.ip, .int .u16 x'.key.pt.port, .int .u32 x'.out.ip, .int .u16 x'.out.port, .int .u32 x'.gen, .slice B x'.peers.length d, .int .i64 x'.state, .int .u32 x'.til] 35 (0, 0)) ∧ Mod No (w.alloc (.cells #[.int .u8 s.key.proto, .int .u32 s.key.pt.ip, .int .u16 s.key.pt.port, .int .u32 s.out.ip, .int .u16 s.out.port, .int .u32 s.gen, .slice A s.peers.length cc, .int .i64 s.state, .int .u32 s.til] 35)) wx)
  case first =>
    go_region_held3 (fun w' => w'.cell? ⟨tb, 0, none⟩ = some (.map (some mb)) ∧ w'.heap[mb]? = some (.map es c) ∧ w'.cell? ⟨w.heap.size, 0, none⟩ = some (.int .u8 s.key.proto) ∧ w'.cell? ⟨w.heap.size, 1, none⟩ = some (.int .u32 s.key.pt.ip) ∧ w'.cell? ⟨w.heap.size, 2, none⟩ = some (.int .u16 s.key.pt.port))
      ((refine HO.out _ ?_; repeat (first | with_reducible exact Mod.refl _ _ | refine Mod.alloc ?_ _ | refine Mod.drew ?_ | refine Mod.setCell ?_ (.inl (by simp)) _))) (fail)
    all_goals
      go_wp2_with fail
      go_meet
      refine ⟨rfl, rfl, ?_, by repeat (first | with_reducible exact Mod.refl _ _ | refine Mod.alloc ?_ _ | refine Mod.drew ?_ | refine Mod.setCell ?_ (.inl (by simp)) _)⟩
      first | exact at21 w _ _ | exact at21d w _ _
  case rest =>
    obtain ⟨rfl, rfl, hs5, hm1⟩ := hcut
    have B0 := hm1.obj (at10 w _) id
    have z0 := lt_of_block B0
    have f3 := blk_free B0 3
    have f4 := blk_free B0 4
    have x3 : wc.cell? ⟨w.heap.size + 1, 3, none⟩ = some (.int .u32 x'.out.ip) := (blk_cell hs5 3).trans rfl
    have x4 : wc.cell? ⟨w.heap.size + 1, 4, none⟩ = some (.int .u16 x'.out.port) := (blk_cell hs5 4).trans rfl
    have q0 : wc.cell? ⟨w.heap.size, 0, none⟩ = some (.int .u8 s.key.proto) := (blk_cell B0 0).trans rfl
    have q1 : wc.cell? ⟨w.heap.size, 1, none⟩ = some (.int .u32 s.key.pt.ip) := (blk_cell B0 1).trans rfl
    have q2 : wc.cell? ⟨w.heap.size, 2, none⟩ = some (.int .u16 s.key.pt.port) := (blk_cell B0 2).trans rfl
    have q3 : wc.cell? ⟨w.heap.size, 3, none⟩ = some (.int .u32 s.out.ip) := (blk_cell B0 3).trans rfl
    have q4 : wc.cell? ⟨w.heap.size, 4, none⟩ = some (.int .u16 s.out.port) := (blk_cell B0 4).trans rfl
    have q5 : wc.cell? ⟨w.heap.size, 5, none⟩ = some (.int .u32 s.gen) := (blk_cell B0 5).trans rfl
    have q6 : wc.cell? ⟨w.heap.size, 6, none⟩ = some (.slice A s.peers.length cc) := (blk_cell B0 6).trans rfl
    have q7 : wc.cell? ⟨w.heap.size, 7, none⟩ = some (.int .i64 s.state) := (blk_cell B0 7).trans rfl
    have q8 : wc.cell? ⟨w.heap.size, 8, none⟩ = some (.int .u32 s.til) := (blk_cell B0 8).trans rfl
    have HM1 := Lib.hid hm1
    clear hm1 hs5 B0
    go_wp2_with fail
    generalize hV : World.setCell (World.setCell wc _ _) _ _ = V
    have r0 : V.cell? ⟨w.heap.size, 0, none⟩ = some (.int .u8 s.key.proto) := by subst hV; go_simp
    have r1 : V.cell? ⟨w.heap.size, 1, none⟩ = some (.int .u32 s.key.pt.ip) := by subst hV; go_simp
    have r2 : V.cell? ⟨w.heap.size, 2, none⟩ = some (.int .u16 s.key.pt.port) := by subst hV; go_simp
    have r3 : V.cell? ⟨w.heap.size, 3, none⟩ = some (.int .u32 x'.out.ip) := by subst hV; go_simp
    have r4 : V.cell? ⟨w.heap.size, 4, none⟩ = some (.int .u16 x'.out.port) := by subst hV; go_simp
    have r5 : V.cell? ⟨w.heap.size, 5, none⟩ = some (.int .u32 s.gen) := by subst hV; go_simp
    have r6 : V.cell? ⟨w.heap.size, 6, none⟩ = some (.slice A s.peers.length cc) := by subst hV; go_simp
    have r7 : V.cell? ⟨w.heap.size, 7, none⟩ = some (.int .i64 s.state) := by subst hV; go_simp
    have r8 : V.cell? ⟨w.heap.size, 8, none⟩ = some (.int .u32 s.til) := by subst hV; go_simp
    have mV : Mod (fun b => b = w.heap.size) wc V := by rw [← hV]; exact ((Mod.refl (fun b => b = w.heap.size) wc).setCell (p := ⟨w.heap.size, 3, none⟩) (.inr rfl) _).setCell (p := ⟨w.heap.size, 4, none⟩) (.inr rfl) _
    have mW : Mod No w V := (((Mod.refl No w).alloc _).trans HM1.out).trans' mV (fun i hi f => by have f' : i = w.heap.size := f; omega)
    have hbV := mW.obj HH.out.2.1 id
    have cV : V.cell? ⟨tb, 0, none⟩ = some (.map (some mb)) := mW.cell c0 id
    have hold4 : ∀ w', Mod (fun b => b = mb) V w' → w'.cell? ⟨tb, 0, none⟩ = some (.map (some mb)) ∧ w'.cell? ⟨w.heap.size, 0, none⟩ = some (.int .u8 s.key.proto) ∧ w'.cell? ⟨w.heap.size, 1, none⟩ = some (.int .u32 s.key.pt.ip) ∧ w'.cell? ⟨w.heap.size, 2, none⟩ = some (.int .u16 s.key.pt.port) ∧ w'.cell? ⟨w.heap.size, 3, none⟩ = some (.int .u32 x'.out.ip) ∧ w'.cell? ⟨w.heap.size, 4, none⟩ = some (.int .u16 x'.out.port) ∧ w'.cell? ⟨w.heap.size, 5, none⟩ = some (.int .u32 s.gen) ∧ w'.cell? ⟨w.heap.size, 6, none⟩ = some (.slice A s.peers.length cc) ∧ w'.cell? ⟨w.heap.size, 7, none⟩ = some (.int .i64 s.state) ∧ w'.cell? ⟨w.heap.size, 8, none⟩ = some (.int .u32 s.til) := by
      have n1 : ¬ tb = mb := HH.out.1.ne.1
      have n2 : ¬ w.heap.size = mb := by omega
      exact fun w' hm => ⟨hm.cell cV n1, hm.cell r0 n2, hm.cell r1 n2, hm.cell r2 n2, hm.cell r3 n2, hm.cell r4 n2, hm.cell r5 n2, hm.cell r6 n2, hm.cell r7 n2, hm.cell r8 n2⟩
    have hcp : ∀ W, Mod No V W → Calls Try.prog 29 #[.agg #[.int .u8 s.key.proto, .int .u32 s.key.pt.ip, .int .u16 s.key.pt.port, .int .u32 x'.out.ip, .int .u16 x'.out.port, .int .u32 s.gen, .slice A s.peers.length cc, .int .i64 s.state, .int .u32 s.til]] W fun e w' => ∃ v, e = .returned v ∧ SessV (fun b => W.heap.size ≤ b) w' { s with out := x'.out } v ∧ Mod No W w' := fun W hW =>
      copied_ok { s with out := x'.out } A cc W (HH.out.2.2.2.2.1.keeps ((mW.trans hW).keeps (fun _ _ _ f => f))) HH.out.2.2.2.2.2
    have hup := HUP.out
    have HO4 := Lib.hid hold4
    have HC := Lib.hid hcp
    have HW := Lib.hid mW
    have HB := Lib.hid hbV
    clear hold4 hcp mW mV hV x3 x4 q0 q1 q2 q3 q4 q5 q6 q7 q8 f3 f4 z0
    go_region_held3 (fun w' => w'.cell? ⟨tb, 0, none⟩ = some (.map (some mb)) ∧ w'.cell? ⟨w.heap.size, 0, none⟩ = some (.int .u8 s.key.proto) ∧ w'.cell? ⟨w.heap.size, 1, none⟩ = some (.int .u32 s.key.pt.ip) ∧ w'.cell? ⟨w.heap.size, 2, none⟩ = some (.int .u16 s.key.pt.port) ∧ w'.cell? ⟨w.heap.size, 3, none⟩ = some (.int .u32 x'.out.ip) ∧ w'.cell? ⟨w.heap.size, 4, none⟩ = some (.int .u16 x'.out.port) ∧ w'.cell? ⟨w.heap.size, 5, none⟩ = some (.int .u32 s.gen) ∧ w'.cell? ⟨w.heap.size, 6, none⟩ = some (.slice A s.peers.length cc) ∧ w'.cell? ⟨w.heap.size, 7, none⟩ = some (.int .i64 s.state) ∧ w'.cell? ⟨w.heap.size, 8, none⟩ = some (.int .u32 s.til))
      ((refine HO4.out _ ?_; repeat (first | with_reducible exact Mod.refl _ _ | refine Mod.alloc ?_ _ | refine Mod.drew ?_ | refine Mod.setBlock ?_ (.inr (by simp)) _ | with_reducible refine Mod.trans ?_ hmg)))
      (first | (go_at_call 29; refine (HC.out _ ((Mod.refl _ _).drew)).mono ?_; rintro e w3 ⟨v, rfl, hv, hm3⟩; have hmg := Mod.mono (G := fun b => b = mb) hm3 (fun _ h => h.elim); have hb3 := ((((Mod.refl No V).drew).trans hm3).obj HB.out id)))
    have HV := Lib.hid hv
    have HW3 := Lib.hid (HW.out.drew.trans hm3)
    have z3 := HW.out.size
    clear hmg hv hm3 hup
    go_wp2
    go_ret
    refine ⟨rfl, Mod.setBlock (F := fun b => b = mb) (b := mb) (HW3.out.mono (fun _ h => h.elim)) (.inr rfl) _, _, ?_, tab_set HH.out.1 HH.out.2.1 j x' { s with out := x'.out } HH.out.2.2.1 HH.out.2.2.2.1.symm rfl HH.out.2.2.2.2.2 HW3.out v (HV.out.mono (fun b hb hs => ⟨Nat.le_trans z3 hs, hb⟩))⟩
    intro b hb
    rw [size_setBlock]
    exact hb

end Go.Proofs.Ytimbhkbdmcbodaa
