/-
  Copies of sessions whose peers' row is the callee's own (and may be written to): copied, Find, Out.
-/
import Derived.Test.YtimbhkbdmcbodaaSessD
import Derived.Test.YtimbhkbdmcbodaaSessG
namespace Go.Proofs.Ytimbhkbdmcbodaa
open Go.RowKit Go.MapKept Go.ChangeMaps
set_option linter.unusedVariables false

/-- A row of points that the call owns, from block base on. -/
def OwnP (base : Nat) (w : World) (A : Option Addr) (c : Nat) (l : List Point) : Prop := w.ownsRow base 26 2 (.slice A l.length c) l.length (ptCells l)
theorem OwnP.mod {F : Nat → Prop} {base : Nat} {w w' : World} {A : Option Addr} {c : Nat} {l : List Point} (h : OwnP base w A c l) (hm : Mod F w w') (hF : ∀ b, base ≤ b → ¬ F b) : OwnP base w' A c l := own_mod h hm (fun k hk => hF k (h.lt k hk).1)
theorem OwnP.lower {base base' : Nat} {w : World} {A : Option Addr} {c : Nat} {l : List Point} (h : OwnP base w A c l) (hb : base' ≤ base) : OwnP base' w A c l := by
  refine ⟨h.1, ?_⟩
  rcases h.2 with hn | ⟨g, cap, cur, e, hg, rest⟩
  · exact .inl hn
  · exact .inr ⟨g, cap, cur, e, by omega, rest⟩
theorem OwnP.row {base : Nat} {w : World} {A : Option Addr} {c : Nat} {l : List Point} (h : OwnP base w A c l) : RowAt (fun b => base ≤ b) w A (ptCells l) := by
  obtain ⟨A', c', e, _, hr⟩ := RowAt.of_owns h
  cases e
  exact hr
theorem copied_own {S : Nat → Prop} (s : Sess) (A : Option Addr) (c : Nat) (w : World) (hx : RowAt S w A (ptCells s.peers)) (hl : s.peers.length ≤ 65536) :
    Calls Try.prog 29 #[s.val A c] w fun e w' => ∃ A' c', e = .returned (s.val A' c') ∧ OwnP w.heap.size w' A' c' s.peers ∧ Mod No w w' := by
  have HL := Lib.hid hl
  clear hl
  unfold Sess.val
  go_enter Try.func29, Try.ntmps29
  go_wp2_with fail
  refine (clone_own (S := fun b => S b ∧ b < w.heap.size) A c s.peers _ (RowAt.keeps ((hx.mono (fun b hb hs => ⟨hs, hb⟩))) (Mod.keeps (((Mod.refl No _).alloc _).alloc _) (fun _ _ _ => id))) HL.out).mono ?_
  rintro e w1 ⟨v9, rfl, hr, hm⟩
  obtain ⟨A', c', rfl, hc', _⟩ := RowAt.of_owns hr
  have B0 := hm.obj (at20 w _ _) id
  have B1 := hm.obj (at21 w _ _) id
  have hm' : Mod No w w1 := (((Mod.refl No w).alloc _).alloc _).trans hm
  have hr' : OwnP (w.heap.size + 2) w1 A' c' s.peers := OwnP.lower hr (by simp)
  have HR := Lib.hid hr'
  have HM := Lib.hid hm'
  have k0 := blk_cell B0
  have k1 := blk_cell B1
  have f0 := blk_free B0
  have f1 := blk_free B1
  have z1 := lt_of_block B1
  clear hr hr' hm hm' hx B0 B1
  go_wp2
  refine bodyPost_ret (v := s.val A' c') (by simp [results, Try.results29, go_sem, Sess.val, k1]) rfl ⟨A', c', rfl, ?_, ?_⟩
  · refine OwnP.lower (HR.out.mod (F := fun b => b < w.heap.size + 2) ?_ (fun b hb => by omega)) (by omega)
    repeat (first | with_reducible exact Mod.refl _ _ | refine Mod.setCell ?_ (.inr (by simp)) _)
  · repeat (first | with_reducible exact HM.out | refine Mod.setCell ?_ (.inl (by simp)) _)

theorem find_own {S : Nat → Prop} {w : World} {tb mb mo : Nat} {L : List Sess} (h : Tab w tb mb mo S L) (k : Key) (hk : k.wf) (s : Sess) (hs : L.find? (fun s => s.key = k) = some s) :
    Calls Try.prog 8 #[.pointer (some ⟨tb, 0, none⟩), k.val] w fun e w' => ∃ A' c', e = .returned (.tuple #[s.val A' c', .bool true]) ∧ OwnP w.heap.size w' A' c' s.peers ∧ Mod No w w' := by
  obtain ⟨es, c, hb, hst, hall⟩ := h.byKey
  obtain ⟨kl, hkl⟩ := keyOfKey k hk
  rcases find_all2 hall (·.key) (fun _ _ h => h.1) k with ⟨h1, _⟩ | ⟨j, s', e0, h1, h2, h3, ⟨h4, h5⟩, h6, h7⟩
  · rw [h1] at hs; cases hs
  rw [h1] at hs
  cases hs
  obtain ⟨A, cc, hv, hr⟩ := h5.val
  have hlk := lookup_hit (b := mb) keyedKey Try.underlying61 hst (keysOk_by hall h.wf) hkl h3 h6 true
  rw [hv] at hlk
  simp only [if_true] at hlk
  have hpl := (h.wf _ (List.mem_of_getElem? h2)).2.2
  have hlt := lt_of_block h.row
  have hlt' := lt_of_block hb
  have c0 : w.cell? ⟨tb, 0, none⟩ = some (.map (some mb)) := (blk_cell h.row 0).trans rfl
  have hold : ∀ w', Mod No (w.alloc (.cells #[.int .u8 k.proto, .int .u32 k.pt.ip, .int .u16 k.pt.port] 31)) w' → w'.cell? ⟨tb, 0, none⟩ = some (.map (some mb)) ∧ w'.cell? ⟨w.heap.size, 0, none⟩ = some (.int .u8 k.proto) ∧ w'.cell? ⟨w.heap.size, 1, none⟩ = some (.int .u32 k.pt.ip) ∧ w'.cell? ⟨w.heap.size, 2, none⟩ = some (.int .u16 k.pt.port) ∧ w'.heap[mb]? = some (.map es c) := by
    intro w' hm
    have B := hm.obj (at10 w _) id
    have hm' := ((Mod.refl No w).alloc _).trans hm
    exact ⟨hm'.cell c0 id, (blk_cell B 0).trans rfl, (blk_cell B 1).trans rfl, (blk_cell B 2).trans rfl, hm'.obj hb id⟩
  have HP := Lib.hid hpl
  have HS := Lib.hid h
  have HR := Lib.hid hr
  clear h1 h2 h3 h4 h5 h6 h7 hv hst hall hkl hpl h hr
  unfold Key.val Sess.val at *
  go_enter Try.func8, Try.ntmps8
  go_wp2
  go_region_held3 (fun w' => w'.cell? ⟨tb, 0, none⟩ = some (.map (some mb)) ∧ w'.cell? ⟨w.heap.size, 0, none⟩ = some (.int .u8 k.proto) ∧ w'.cell? ⟨w.heap.size, 1, none⟩ = some (.int .u32 k.pt.ip) ∧ w'.cell? ⟨w.heap.size, 2, none⟩ = some (.int .u16 k.pt.port) ∧ w'.heap[mb]? = some (.map es c))
    ((refine hold _ ?_; repeat (first | with_reducible exact Mod.refl _ _ | refine Mod.alloc ?_ _ | refine Mod.drew ?_ | refine Mod.setCell ?_ (.inl (by simp)) _))) (fail)
  all_goals
    go_wp2_with fail
    refine (copied_own (S := fun b => S b ∧ b < w.heap.size) s A cc _ (RowAt.keeps ((HR.out.mono (fun b hb hs => ⟨hs, hb⟩))) (Mod.keeps (F := No) ?_ (fun _ _ _ => id))) HP.out).mono ?_
    · repeat (first | with_reducible exact Mod.refl _ _ | refine Mod.alloc ?_ _ | refine Mod.drew ?_ | refine Mod.setCell ?_ (.inl (by simp)) _)
    rintro e w1 ⟨A', c', rfl, hr', hm⟩
    have B1 := hm.obj (at31 w _ _ _) id
    have k1 := blk_cell B1
    have f1 := blk_free B1
    have z1 := lt_of_block B1
    have HM := Lib.hid ((((((Mod.refl No w).alloc _).alloc _).alloc _).drew).trans hm)
    have HR' := Lib.hid hr'
    clear hr' hm B1 hold hlk
    unfold Sess.val
    go_wp2
    refine bodyPost_ret (v := .tuple #[s.val A' c', .bool true]) (by simp [results, Try.results8, go_sem, Sess.val, k1]) rfl ⟨A', c', rfl, ?_, ?_⟩
    · refine OwnP.lower (OwnP.mod (base := w.heap.size + 3) (HR'.out.lower (by simp)) (F := fun b => b < w.heap.size + 3) ?_ (fun b hb => by omega)) (by omega)
      repeat (first | with_reducible exact Mod.refl _ _ | refine Mod.setCell ?_ (.inr (by simp)) _)
    · repeat (first | with_reducible exact HM.out | refine Mod.setCell ?_ (.inl (by simp)) _)
theorem out_own {S : Nat → Prop} {w : World} {tb mb mo : Nat} {L : List Sess} (h : Tab w tb mb mo S L) (k : Key) (hk : k.wf) (s : Sess) (hs : L.find? (fun s => s.of = k) = some s) :
    Calls Try.prog 11 #[.pointer (some ⟨tb, 0, none⟩), .int .u8 k.proto, k.pt.val] w fun e w' => ∃ A' c', e = .returned (.tuple #[s.val A' c', .bool true]) ∧ OwnP w.heap.size w' A' c' s.peers ∧ Mod No w w' := by
  obtain ⟨es, c, hb, hst, hall⟩ := h.byOut
  obtain ⟨kl, hkl⟩ := keyOfOuter k hk
  rcases find_all2 hall Sess.of (fun _ _ h => h.1) k with ⟨h1, _⟩ | ⟨j, s', e0, h1, h2, h3, ⟨h4, h5⟩, h6, h7⟩
  · rw [h1] at hs; cases hs
  rw [h1] at hs
  cases hs
  have hmem := List.mem_of_getElem? h2
  have hself := h.find_self hmem
  have hlk := lookup_hit (b := mo) keyedOuter Try.underlying62 hst (keysOk_out hall h.wf) hkl h3 h6 true
  rw [h5] at hlk
  simp only [if_true] at hlk
  have hswf := (h.wf _ hmem).1
  have hlt := lt_of_block h.row
  have hlt' := lt_of_block hb
  have c0 : w.cell? ⟨tb, 1, none⟩ = some (.map (some mo)) := (blk_cell h.row 1).trans rfl
  have hold : ∀ w', Mod No (w.alloc (.cells #[.int .u32 k.pt.ip, .int .u16 k.pt.port] 26)) w' → w'.cell? ⟨tb, 1, none⟩ = some (.map (some mo)) ∧ w'.cell? ⟨w.heap.size, 0, none⟩ = some (.int .u32 k.pt.ip) ∧ w'.cell? ⟨w.heap.size, 1, none⟩ = some (.int .u16 k.pt.port) ∧ w'.heap[mo]? = some (.map es c) := by
    intro w' hm
    have B := hm.obj (at10 w _) id
    have hm' := ((Mod.refl No w).alloc _).trans hm
    exact ⟨hm'.cell c0 id, (blk_cell B 0).trans rfl, (blk_cell B 1).trans rfl, hm'.obj hb id⟩
  have HS := Lib.hid h
  have HF := Lib.hid hself
  clear h1 h2 h3 h4 h5 h6 h7 hst hall hkl h hself
  unfold Key.val Point.val at *
  go_enter Try.func11, Try.ntmps11
  go_wp2
  go_region_held3 (fun w' => w'.cell? ⟨tb, 1, none⟩ = some (.map (some mo)) ∧ w'.cell? ⟨w.heap.size, 0, none⟩ = some (.int .u32 k.pt.ip) ∧ w'.cell? ⟨w.heap.size, 1, none⟩ = some (.int .u16 k.pt.port) ∧ w'.heap[mo]? = some (.map es c))
    ((refine hold _ ?_; repeat (first | with_reducible exact Mod.refl _ _ | refine Mod.alloc ?_ _ | refine Mod.drew ?_ | refine Mod.setCell ?_ (.inl (by simp)) _))) (fail)
  all_goals
    go_wp2_with fail
    refine (find_own (S := S) (L := L) (tb := tb) (mb := mb) (mo := mo) (HS.out.mod ?_) s.key hswf s HF.out).mono ?_
    · repeat (first | with_reducible exact Mod.refl _ _ | refine Mod.alloc ?_ _ | refine Mod.drew ?_ | refine Mod.setCell ?_ (.inl (by simp)) _)
    rintro e w1 ⟨A', c', rfl, hr', hm⟩
    have B1 := hm.obj (at31 w _ _ _) id
    have k1 := blk_cell B1
    have f1 := blk_free B1
    have z1 := lt_of_block B1
    have HM := Lib.hid ((((((Mod.refl No w).alloc _).alloc _).alloc _).drew).trans hm)
    have HR' := Lib.hid hr'
    clear hr' hm B1 hold hlk
    unfold Sess.val
    go_wp2
    refine bodyPost_ret (v := .tuple #[s.val A' c', .bool true]) (by simp [results, Try.results11, go_sem, Sess.val, k1]) rfl ⟨A', c', rfl, ?_, ?_⟩
    · refine OwnP.lower (OwnP.mod (base := w.heap.size + 3) (HR'.out.lower (by simp)) (F := fun b => b < w.heap.size + 3) ?_ (fun b hb => by omega)) (by omega)
      repeat (first | with_reducible exact Mod.refl _ _ | refine Mod.setCell ?_ (.inr (by simp)) _)
    · repeat (first | with_reducible exact HM.out | refine Mod.setCell ?_ (.inl (by simp)) _)

end Go.Proofs.Ytimbhkbdmcbodaa
