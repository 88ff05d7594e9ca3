/-
  Package sess: Drop.
  Conditions: none.
-/
import Derived.Test.YtimbhkbdmcbodaaSessH
namespace Go.Proofs.Ytimbhkbdmcbodaa
open Go.RowKit Go.MapKept Go.ChangeMaps
set_option linter.unusedVariables false

theorem tab_erase {S : Nat → Prop} {w W : World} {tb mb mo : Nat} {L : List Sess} (h : Tab w tb mb mo S L) {es es' : Array MapEntry} {c c' : Nat} (hb : w.heap[mb]? = some (.map es c)) (hb' : w.heap[mo]? = some (.map es' c')) (j : Nat) (hj : j < L.length) (hW : Mod No w W) :
    Tab (setBlock (setBlock W mo (.map (es'.eraseIdxIfInBounds j) c')) mb (.map (es.eraseIdxIfInBounds j) c)) tb mb mo S (L.eraseIdx j) := by
  have hlt := lt_of_block h.row
  have hlt1 := lt_of_block hb
  have hlt2 := lt_of_block hb'
  obtain ⟨n1, n2, n3⟩ := h.ne
  obtain ⟨a1, a2, a3⟩ := h.apart
  have hkeep : Keeps S W (setBlock (setBlock W mo (.map (es'.eraseIdxIfInBounds j) c')) mb (.map (es.eraseIdxIfInBounds j) c)) := by
    intro b o hs hbo
    have e1 : b ≠ mb := by rintro rfl; exact a2 hs
    have e2 : b ≠ mo := by rintro rfl; exact a3 hs
    rw [heap_setBlock_ne _ e1, heap_setBlock_ne _ e2]
    exact hbo
  obtain ⟨e1, c1, g1, st1, al1⟩ := h.byKey
  obtain ⟨e2, c2, g2, st2, al2⟩ := h.byOut
  rw [hb] at g1
  rw [hb'] at g2
  cases g1
  cases g2
  have hs1 : es.size = L.length := by have := al1.length; simpa using this.symm
  have hs2 : es'.size = L.length := by have := al2.length; simpa using this.symm
  have t1 : (es.eraseIdxIfInBounds j).toList = es.toList.eraseIdx j := by
    rw [Array.eraseIdxIfInBounds, dif_pos (by omega), Array.toList_eraseIdx]
  have t2 : (es'.eraseIdxIfInBounds j).toList = es'.toList.eraseIdx j := by
    rw [Array.eraseIdxIfInBounds, dif_pos (by omega), Array.toList_eraseIdx]
  refine ⟨?_, ⟨_, _, heap_setBlock_self _ (by rw [size_setBlock]; exact Nat.lt_of_lt_of_le hlt1 hW.size), stamped_erase st1 j, ?_⟩, ⟨_, _, ?_, stamped_erase st2 j, ?_⟩, h.ne, h.apart, fun x hx => h.wf x (List.mem_of_mem_eraseIdx hx)⟩
  · rw [heap_setBlock_ne _ n1, heap_setBlock_ne _ n2]
    exact hW.obj h.row id
  · rw [t1]
    exact All2.eraseIdx (All2.imp (fun x y ⟨q1, q2⟩ => ⟨q1, (q2.keeps (hW.keeps (fun _ _ _ => id))).keeps hkeep⟩) al1) j
  · rw [heap_setBlock_ne _ (fun e => n3 e.symm)]
    exact heap_setBlock_self _ (Nat.lt_of_lt_of_le hlt2 hW.size)
  · rw [t2]
    exact All2.eraseIdx al2 j

set_option maxHeartbeats 1600000 in
set_option maxRecDepth 100000 in
theorem drop_miss_ok {S : Nat → Prop} {w : World} {tb mb mo : Nat} {L : List Sess} (h : Tab w tb mb mo S L) (k : Key) (hk : k.wf) (hn : L.find? (fun s => s.key = k) = none) :
    Calls Try.prog 18 #[.pointer (some ⟨tb, 0, none⟩), k.val] w fun e w' => e = .returned (.bool false) ∧ Mod No w w' := by
  obtain ⟨es, c, hb, hst, hall⟩ := h.byKey
  obtain ⟨x, B, d, hx1, hx2, hx3, hl1⟩ := by_lookup h k hk hb
  rw [hn] at hl1
  simp only [Option.isSome_none] at hl1
  have hlt := lt_of_block h.row
  have hlt' := lt_of_block hb
  have c0 : w.cell? ⟨tb, 0, none⟩ = some (.map (some mb)) := (blk_cell h.row 0).trans rfl
  have hold : ∀ w', Mod No (w.alloc (.cells #[.int .u8 k.proto, .int .u32 k.pt.ip, .int .u16 k.pt.port] 31)) w' → w'.cell? ⟨tb, 0, none⟩ = some (.map (some mb)) ∧ w'.cell? ⟨w.heap.size, 0, none⟩ = some (.int .u8 k.proto) ∧ w'.cell? ⟨w.heap.size, 1, none⟩ = some (.int .u32 k.pt.ip) ∧ w'.cell? ⟨w.heap.size, 2, none⟩ = some (.int .u16 k.pt.port) ∧ w'.heap[mb]? = some (.map es c) := by
    intro w' hm
    have B := hm.obj (at10 w _) id
    have hm' := ((Mod.refl No w).alloc _).trans hm
    exact ⟨hm'.cell c0 id, (blk_cell B 0).trans rfl, (blk_cell B 1).trans rfl, (blk_cell B 2).trans rfl, hm'.obj hb id⟩
  clear hst hall hx1 hx2 hx3 h hn
  unfold Key.val Sess.val at *
  go_enter Try.func18, Try.ntmps18
  go_wp2_with fail
  go_region_held3 (fun w' => w'.cell? ⟨tb, 0, none⟩ = some (.map (some mb)) ∧ w'.cell? ⟨w.heap.size, 0, none⟩ = some (.int .u8 k.proto) ∧ w'.cell? ⟨w.heap.size, 1, none⟩ = some (.int .u32 k.pt.ip) ∧ w'.cell? ⟨w.heap.size, 2, none⟩ = some (.int .u16 k.pt.port) ∧ w'.heap[mb]? = some (.map es c))
    ((refine hold _ ?_; repeat (first | with_reducible exact Mod.refl _ _ | refine Mod.alloc ?_ _ | refine Mod.drew ?_ | refine Mod.setCell ?_ (.inl (by simp)) _))) (fail)
  all_goals
    go_wp2_with fail
    go_ret
    exact ⟨rfl, by repeat (first | with_reducible exact Mod.refl _ _ | refine Mod.alloc ?_ _ | refine Mod.drew ?_ | refine Mod.setCell ?_ (.inl (by simp)) _)⟩

set_option maxHeartbeats 1600000 in
set_option maxRecDepth 100000 in
theorem drop_hit_ok {S : Nat → Prop} {w : World} {tb mb mo : Nat} {L : List Sess} (h : Tab w tb mb mo S L) (s : Sess) (j : Nat) (hj : L[j]? = some s) :
    Calls Try.prog 18 #[.pointer (some ⟨tb, 0, none⟩), s.key.val] w fun e w' => e = .returned (.bool true) ∧ Mod (fun b => b = mb ∨ b = mo) w w' ∧ Tab w' tb mb mo S (L.eraseIdx j) := by
  have hmem := List.mem_of_getElem? hj
  have hk := (h.wf s hmem).1
  have ho := (h.wf s hmem).2.1
  have hfs := h.find_self hmem
  obtain ⟨es, c, hb, hst, hall⟩ := h.byKey
  obtain ⟨es', c', hb', hst', hall'⟩ := h.byOut
  obtain ⟨x, B, d, hx1, hx2, hx3, hl1⟩ := by_lookup h s.key hk hb
  rw [hfs] at hl1 hx1
  obtain rfl : x = s := hx1
  simp only [Option.isSome_some] at hl1
  obtain ⟨kl, hkl⟩ := keyOfKey x.key hk
  obtain ⟨kl', hkl'⟩ := keyOfOuter x.of ⟨hk.proto, ho⟩
  obtain ⟨e0, he0, hr0⟩ := hall.get hj
  obtain ⟨e1, he1, hr1⟩ := hall'.get hj
  have hd1 := fun ty => delete_hit (b := mo) (ty := ty) keyedOuter Try.underlying62 hst' (keysOk_out hall' h.wf) hkl' (j := j) (by simpa using he1) hr1.1
  have hd2 := fun ty => delete_hit (b := mb) (ty := ty) keyedKey Try.underlying61 hst (keysOk_by hall h.wf) hkl (j := j) (by simpa using he0) hr0.1
  have htab : ∀ W, Mod No w W → Tab (setBlock (setBlock W mo (.map (es'.eraseIdxIfInBounds j) c')) mb (.map (es.eraseIdxIfInBounds j) c)) tb mb mo S (L.eraseIdx j) := fun W hW => tab_erase h hb hb' j (List.getElem?_eq_some_iff.1 hj).1 hW
  have hlt := lt_of_block h.row
  have hlt1 := lt_of_block hb
  have hlt2 := lt_of_block hb'
  have c0 : w.cell? ⟨tb, 0, none⟩ = some (.map (some mb)) := (blk_cell h.row 0).trans rfl
  have c1 : w.cell? ⟨tb, 1, none⟩ = some (.map (some mo)) := (blk_cell h.row 1).trans rfl
  have hold : ∀ w', Mod No (w.alloc (.cells #[.int .u8 x.key.proto, .int .u32 x.key.pt.ip, .int .u16 x.key.pt.port] 31)) w' → w'.cell? ⟨tb, 0, none⟩ = some (.map (some mb)) ∧ w'.cell? ⟨tb, 1, none⟩ = some (.map (some mo)) ∧ w'.cell? ⟨w.heap.size, 0, none⟩ = some (.int .u8 x.key.proto) ∧ w'.cell? ⟨w.heap.size, 1, none⟩ = some (.int .u32 x.key.pt.ip) ∧ w'.cell? ⟨w.heap.size, 2, none⟩ = some (.int .u16 x.key.pt.port) ∧ w'.heap[mb]? = some (.map es c) ∧ w'.heap[mo]? = some (.map es' c') := by
    intro w' hm
    have B := hm.obj (at10 w _) id
    have hm' := ((Mod.refl No w).alloc _).trans hm
    exact ⟨hm'.cell c0 id, hm'.cell c1 id, (blk_cell B 0).trans rfl, (blk_cell B 1).trans rfl, (blk_cell B 2).trans rfl, hm'.obj hb id, hm'.obj hb' id⟩
  have hset : ∀ (W : World) (X : Obj) (b o : Nat) (v : Value), b ≠ mo → W.cell? ⟨b, o, none⟩ = some v → (setBlock W mo X).cell? ⟨b, o, none⟩ = some v := fun W X b o v hne hc => by rw [cell_setBlock_ne _ hne]; exact hc
  have hof := fun W => of_ok x B d W
  have HF := Lib.hid hof
  have HO := Lib.hid hold
  have HT := Lib.hid htab
  have HS := Lib.hid hset
  have HNE := Lib.hid h.ne
  clear hst hall hst' hall' hx2 hx3 h hfs hj hkl hkl' he0 he1 hr0 hr1 hof hold htab hset hk ho hmem hb hb'
  unfold Key.val Sess.val Sess.of at *
  go_enter Try.func18, Try.ntmps18
  go_upto_region 1 with fail
  go_cut [5, 6] (fun s5 s6 wx => s5 = .pointer (some ⟨w.heap.size + 1, 0, none⟩) ∧ s6 = .bool true ∧ wx.heap[w.heap.size + 1]? = some (.cells #[.int .u8 x.key.proto, .int .u32 x.key.pt.ip, .int .u16 x.key.pt.port, .int .u32 x.out.ip, .int .u16 x.out.port, .int .u32 x.gen, .slice B x.peers.length d, .int .i64 x.state, .int .u32 x.til] 35 (0, 0)) ∧ Mod No (w.alloc (.cells #[.int .u8 x.key.proto, .int .u32 x.key.pt.ip, .int .u16 x.key.pt.port] 31)) wx)
  case first =>
    go_region_held3 (fun w' => w'.cell? ⟨tb, 0, none⟩ = some (.map (some mb)) ∧ w'.cell? ⟨tb, 1, none⟩ = some (.map (some mo)) ∧ w'.cell? ⟨w.heap.size, 0, none⟩ = some (.int .u8 x.key.proto) ∧ w'.cell? ⟨w.heap.size, 1, none⟩ = some (.int .u32 x.key.pt.ip) ∧ w'.cell? ⟨w.heap.size, 2, none⟩ = some (.int .u16 x.key.pt.port) ∧ w'.heap[mb]? = some (.map es c) ∧ w'.heap[mo]? = some (.map es' c'))
      ((refine HO.out _ ?_; repeat (first | with_reducible exact Mod.refl _ _ | refine Mod.alloc ?_ _ | refine Mod.drew ?_ | refine Mod.setCell ?_ (.inl (by simp)) _))) (fail)
    all_goals
      go_wp2_with fail
      go_meet
      refine ⟨rfl, rfl, ?_, by repeat (first | with_reducible exact Mod.refl _ _ | refine Mod.alloc ?_ _ | refine Mod.drew ?_ | refine Mod.setCell ?_ (.inl (by simp)) _)⟩
      first | exact at21 w _ _ | exact at21d w _ _
  case rest =>
  obtain ⟨rfl, rfl, hs5, hm1⟩ := hcut
  obtain ⟨w1, rfl⟩ : ∃ x : World, x = wc := ⟨_, rfl⟩
  have hold3 : ∀ w', Mod (fun b => b = mo) w1 w' → w'.cell? ⟨tb, 0, none⟩ = some (.map (some mb)) ∧ w'.cell? ⟨tb, 1, none⟩ = some (.map (some mo)) ∧ w'.cell? ⟨w.heap.size, 0, none⟩ = some (.int .u8 x.key.proto) ∧ w'.cell? ⟨w.heap.size, 1, none⟩ = some (.int .u32 x.key.pt.ip) ∧ w'.cell? ⟨w.heap.size, 2, none⟩ = some (.int .u16 x.key.pt.port) ∧ w'.heap[mb]? = some (.map es c) ∧
      w'.cell? ⟨w.heap.size + 1, 0, none⟩ = some (.int .u8 x.key.proto) ∧ w'.cell? ⟨w.heap.size + 1, 1, none⟩ = some (.int .u32 x.key.pt.ip) ∧ w'.cell? ⟨w.heap.size + 1, 2, none⟩ = some (.int .u16 x.key.pt.port) ∧
      w'.cell? ⟨w.heap.size + 1, 3, none⟩ = some (.int .u32 x.out.ip) ∧ w'.cell? ⟨w.heap.size + 1, 4, none⟩ = some (.int .u16 x.out.port) ∧ w'.cell? ⟨w.heap.size + 1, 5, none⟩ = some (.int .u32 x.gen) ∧
      w'.cell? ⟨w.heap.size + 1, 6, none⟩ = some (.slice B x.peers.length d) ∧ w'.cell? ⟨w.heap.size + 1, 7, none⟩ = some (.int .i64 x.state) ∧ w'.cell? ⟨w.heap.size + 1, 8, none⟩ = some (.int .u32 x.til) := by
    intro w' hm
    obtain ⟨f0, f1, f2, f3, f4, f5, f6⟩ := HO.out _ hm1
    have B := hm.obj hs5 (by omega)
    exact ⟨hm.cell f0 HNE.out.2.1, hm.cell f1 HNE.out.2.1, hm.cell f2 (by show ¬ w.heap.size = mo; omega), hm.cell f3 (by show ¬ w.heap.size = mo; omega), hm.cell f4 (by show ¬ w.heap.size = mo; omega), hm.obj f5 HNE.out.2.2, (blk_cell B 0).trans rfl, (blk_cell B 1).trans rfl, (blk_cell B 2).trans rfl, (blk_cell B 3).trans rfl, (blk_cell B 4).trans rfl, (blk_cell B 5).trans rfl, (blk_cell B 6).trans rfl, (blk_cell B 7).trans rfl, (blk_cell B 8).trans rfl⟩
  have hold5 : ∀ w', Mod (fun b => b = mo ∨ b = mb) w1 w' → w'.cell? ⟨tb, 0, none⟩ = some (.map (some mb)) ∧ w'.cell? ⟨w.heap.size, 0, none⟩ = some (.int .u8 x.key.proto) ∧ w'.cell? ⟨w.heap.size, 1, none⟩ = some (.int .u32 x.key.pt.ip) ∧ w'.cell? ⟨w.heap.size, 2, none⟩ = some (.int .u16 x.key.pt.port) := by
    intro w' hm
    obtain ⟨f0, f1, f2, f3, f4, f5, f6⟩ := HO.out _ hm1
    have n1 : ¬ (tb = mo ∨ tb = mb) := by have := HNE.out; omega
    have n2 : ¬ (w.heap.size = mo ∨ w.heap.size = mb) := by omega
    exact ⟨hm.cell f0 n1, hm.cell f2 n2, hm.cell f3 n2, hm.cell f4 n2⟩
  have HO5 := Lib.hid hold5
  clear hold5
  have HO3 := Lib.hid hold3
  have HM1 := Lib.hid hm1
  have HB2 := Lib.hid (HO.out _ (Mod.refl _ _)).2.2.2.2.2.2
  clear hold3 hm1 hs5
  go_wp2_with fail
  go_region_held3 (fun w' => w'.cell? ⟨tb, 0, none⟩ = some (.map (some mb)) ∧ w'.cell? ⟨tb, 1, none⟩ = some (.map (some mo)) ∧ w'.cell? ⟨w.heap.size, 0, none⟩ = some (.int .u8 x.key.proto) ∧ w'.cell? ⟨w.heap.size, 1, none⟩ = some (.int .u32 x.key.pt.ip) ∧ w'.cell? ⟨w.heap.size, 2, none⟩ = some (.int .u16 x.key.pt.port) ∧ w'.heap[mb]? = some (.map es c) ∧
      w'.cell? ⟨w.heap.size + 1, 0, none⟩ = some (.int .u8 x.key.proto) ∧ w'.cell? ⟨w.heap.size + 1, 1, none⟩ = some (.int .u32 x.key.pt.ip) ∧ w'.cell? ⟨w.heap.size + 1, 2, none⟩ = some (.int .u16 x.key.pt.port) ∧
      w'.cell? ⟨w.heap.size + 1, 3, none⟩ = some (.int .u32 x.out.ip) ∧ w'.cell? ⟨w.heap.size + 1, 4, none⟩ = some (.int .u16 x.out.port) ∧ w'.cell? ⟨w.heap.size + 1, 5, none⟩ = some (.int .u32 x.gen) ∧
      w'.cell? ⟨w.heap.size + 1, 6, none⟩ = some (.slice B x.peers.length d) ∧ w'.cell? ⟨w.heap.size + 1, 7, none⟩ = some (.int .i64 x.state) ∧ w'.cell? ⟨w.heap.size + 1, 8, none⟩ = some (.int .u32 x.til))
    ((refine HO3.out _ ?_; repeat (first | with_reducible exact Mod.refl _ _ | refine Mod.alloc ?_ _ | refine Mod.drew ?_ | refine Mod.setCell ?_ (.inl (by simp)) _ | refine Mod.setBlock ?_ (.inr (by simp)) _ | with_reducible refine Mod.trans ?_ hmg)))
    (first | (go_at_call 28; refine (HF.out _).mono ?_; rintro e w2 ⟨rfl, hm⟩; have hmg := Mod.mono (G := fun b => b = mo) hm (fun _ h => h.elim); have hb4 := (((HM1.out.drew).trans hm).obj HB2.out id)) | fail)
  have hmq : Mod (fun b => b = mo) w1 (setBlock w2 mo (.map (es'.eraseIdxIfInBounds j) c')) := Mod.setBlock (((Mod.refl _ _).drew).trans hmg) (.inr (by simp)) _
  have hmb : (setBlock w2 mo (.map (es'.eraseIdxIfInBounds j) c')).heap[mb]? = some (.map es c) := (HO3.out _ hmq).2.2.2.2.2.1
  have hmb' : (setBlock w2 mo (.map (es'.eraseIdxIfInBounds j) c')).drew.heap[mb]? = some (.map es c) := hmb
  have HMQ := Lib.hid (Mod.mono (G := fun b => b = mo ∨ b = mb) hmq (fun _ h => .inl h))
  have HMW := Lib.hid ((((Mod.refl No w).alloc _).trans HM1.out).drew.trans hm)
  clear hmq hmg hm
  go_wp2_with fail
  go_region_held3 (fun w' => w'.cell? ⟨tb, 0, none⟩ = some (.map (some mb)) ∧ w'.cell? ⟨w.heap.size, 0, none⟩ = some (.int .u8 x.key.proto) ∧ w'.cell? ⟨w.heap.size, 1, none⟩ = some (.int .u32 x.key.pt.ip) ∧ w'.cell? ⟨w.heap.size, 2, none⟩ = some (.int .u16 x.key.pt.port))
    ((refine HO5.out _ ?_; repeat (first | with_reducible exact HMQ.out | with_reducible exact Mod.refl _ _ | refine Mod.alloc ?_ _ | refine Mod.drew ?_ | refine Mod.setCell ?_ (.inl (by simp)) _ | refine Mod.setBlock ?_ (.inr (by simp)) _))) (fail)
  all_goals
    go_wp2_with fail
    go_ret
    refine ⟨rfl, ?_, ?_⟩
    · exact Mod.setBlock ((Mod.setBlock (HMW.out.mono (fun _ h => h.elim)) (.inr (.inr rfl)) _).drew) (.inr (.inl rfl)) _
    · exact HT.out w2.drew HMW.out.drew

end Go.Proofs.Ytimbhkbdmcbodaa
