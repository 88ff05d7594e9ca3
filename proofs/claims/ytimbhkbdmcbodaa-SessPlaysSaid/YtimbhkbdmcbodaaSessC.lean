/-
  Package sess, third part: the table: what it holds; New, Len, Find, Out, Add, Drop, Put.
-/
import Derived.Test.YtimbhkbdmcbodaaSessB
import Derived.StillTailTactics
namespace Go.Proofs.Ytimbhkbdmcbodaa
open Go.RowKit Go.MapKept Go.ChangeMaps
set_option linter.unusedVariables false

/-- A table at block tb, its two maps at mb and mo, its sessions' peers in blocks of S: it holds the sessions L, in the order in which they came. -/
structure Tab (w : World) (tb mb mo : Nat) (S : Nat → Prop) (L : List Sess) : Prop where
  row : w.heap[tb]? = some (.cells #[.map (some mb), .map (some mo)] 64 (0, 0))
  byKey : ∃ es c, w.heap[mb]? = some (.map es c) ∧ Stamped es c ∧ All2 (fun s e => e.key = s.key.val ∧ SessV S w s e.val) L es.toList
  byOut : ∃ es c, w.heap[mo]? = some (.map es c) ∧ Stamped es c ∧ All2 (fun s e => e.key = s.of.val ∧ e.val = s.key.val) L es.toList
  ne : tb ≠ mb ∧ tb ≠ mo ∧ mb ≠ mo
  apart : ¬ S tb ∧ ¬ S mb ∧ ¬ S mo
  wf : ∀ s ∈ L, s.key.wf ∧ s.out.wf ∧ s.peers.length ≤ 65536

theorem find_all2 {R : Sess → MapEntry → Prop} {L : List Sess} {es : Array MapEntry} (h : All2 R L es.toList) (f : Sess → Key) (hR : ∀ s e, R s e → e.key = (f s).val) (k : Key) :
    (L.find? (fun s => f s = k) = none ∧ ∀ x ∈ es.toList, x.key ≠ k.val) ∨ ∃ (j : Nat) (s : Sess) (e : MapEntry), L.find? (fun s => f s = k) = some s ∧ L[j]? = some s ∧ es[j]? = some e ∧ R s e ∧ e.key = k.val ∧ f s = k := by
  cases hf : L.find? (fun s => f s = k) with
  | none =>
    refine .inl ⟨rfl, fun x hx e => ?_⟩
    obtain ⟨i, hi⟩ := List.getElem?_of_mem hx
    obtain ⟨s, hs, hr⟩ := h.get' hi
    have h1 := List.find?_eq_none.1 hf s (List.mem_of_getElem? hs)
    rw [hR s x hr] at e
    exact h1 (by simpa using Key.val_inj e)
  | some s =>
    have h1 := List.find?_some hf
    obtain ⟨j, hj⟩ := List.getElem?_of_mem (List.mem_of_find?_eq_some hf)
    obtain ⟨e, he, hr⟩ := h.get hj
    have h2 : f s = k := by simpa using h1
    exact .inr ⟨j, s, e, rfl, hj, by simpa using he, hr, by rw [hR s e hr, h2], h2⟩
theorem keysOk_by {S : Nat → Prop} {w : World} {L : List Sess} {es : Array MapEntry} (h : All2 (fun s e => e.key = s.key.val ∧ SessV S w s e.val) L es.toList) (hwf : ∀ s ∈ L, s.key.wf ∧ s.out.wf ∧ s.peers.length ≤ 65536) : KeysOk Try.prog 31 es := by
  intro x hx
  obtain ⟨i, hi⟩ := List.getElem?_of_mem hx
  obtain ⟨s, hs, hr, _⟩ := h.get' hi
  rw [hr]
  exact keyOfKey _ (hwf s (List.mem_of_getElem? hs)).1
theorem keysOk_out {L : List Sess} {es : Array MapEntry} (h : All2 (fun s e => e.key = s.of.val ∧ e.val = s.key.val) L es.toList) (hwf : ∀ s ∈ L, s.key.wf ∧ s.out.wf ∧ s.peers.length ≤ 65536) : KeysOk Try.prog 67 es := by
  intro x hx
  obtain ⟨i, hi⟩ := List.getElem?_of_mem hx
  obtain ⟨s, hs, hr, _⟩ := h.get' hi
  rw [hr]
  exact keyOfOuter _ ⟨(hwf s (List.mem_of_getElem? hs)).1.proto, (hwf s (List.mem_of_getElem? hs)).2.1⟩

theorem zeroSess (w : World) : (zeroValue 35).run Try.prog w = .ok (Sess.zero.val none 0) w := by kernel_rfl
theorem zeroKey (w : World) : (zeroValue 31).run Try.prog w = .ok Key.zero.val w := by kernel_rfl

/-! ### Find -/
theorem find_hit_ok {S : Nat → Prop} {w : World} {tb mb mo : Nat} {L : List Sess} (h : Tab w tb mb mo S L) (k : Key) (hk : k.wf) (s : Sess) (hs : L.find? (fun s => s.key = k) = some s) :
    Calls Try.prog 8 #[.pointer (some ⟨tb, 0, none⟩), k.val] w fun e w' => ∃ v, e = .returned (.tuple #[v, .bool true]) ∧ SessV (fun b => w.heap.size ≤ b) w' s v ∧ Mod No w w' := by
  obtain ⟨es, c, hb, hst, hall⟩ := h.byKey
  obtain ⟨kl, hkl⟩ := keyOfKey k hk
  rcases find_all2 hall (·.key) (fun _ _ h => h.1) k with ⟨h1, _⟩ | ⟨j, s', e0, h1, h2, h3, ⟨h4, h5⟩, h6, h7⟩
  · rw [h1] at hs; cases hs
  rw [h1] at hs
  cases hs
  obtain ⟨A, cc, hv, hr⟩ := h5.val
  have hlk := lookup_hit (b := mb) keyedKey Try.underlying61 hst (keysOk_by hall h.wf) hkl h3 h6 true
  rw [hv] at hlk
  simp only [if_true] at hlk
  have hpl := (h.wf _ (List.mem_of_getElem? h2)).2.2
  have hlt := lt_of_block h.row
  have hlt' := lt_of_block hb
  have c0 : w.cell? ⟨tb, 0, none⟩ = some (.map (some mb)) := (blk_cell h.row 0).trans rfl
  have hold : ∀ w', Mod No (w.alloc (.cells #[.int .u8 k.proto, .int .u32 k.pt.ip, .int .u16 k.pt.port] 31)) w' → w'.cell? ⟨tb, 0, none⟩ = some (.map (some mb)) ∧ w'.cell? ⟨w.heap.size, 0, none⟩ = some (.int .u8 k.proto) ∧ w'.cell? ⟨w.heap.size, 1, none⟩ = some (.int .u32 k.pt.ip) ∧ w'.cell? ⟨w.heap.size, 2, none⟩ = some (.int .u16 k.pt.port) ∧ w'.heap[mb]? = some (.map es c) := by
    intro w' hm
    have B := hm.obj (at10 w _) id
    have hm' := ((Mod.refl No w).alloc _).trans hm
    exact ⟨hm'.cell c0 id, (blk_cell B 0).trans rfl, (blk_cell B 1).trans rfl, (blk_cell B 2).trans rfl, hm'.obj hb id⟩
  have HP := Lib.hid hpl
  have HS := Lib.hid h
  have HR := Lib.hid hr
  clear h1 h2 h3 h4 h5 h6 h7 hv hst hall hkl hpl h hr
  unfold Key.val Sess.val at *
  go_enter Try.func8, Try.ntmps8
  go_wp2
  go_region_held3 (fun w' => w'.cell? ⟨tb, 0, none⟩ = some (.map (some mb)) ∧ w'.cell? ⟨w.heap.size, 0, none⟩ = some (.int .u8 k.proto) ∧ w'.cell? ⟨w.heap.size, 1, none⟩ = some (.int .u32 k.pt.ip) ∧ w'.cell? ⟨w.heap.size, 2, none⟩ = some (.int .u16 k.pt.port) ∧ w'.heap[mb]? = some (.map es c))
    ((refine hold _ ?_; repeat (first | with_reducible exact Mod.refl _ _ | refine Mod.alloc ?_ _ | refine Mod.drew ?_ | refine Mod.setCell ?_ (.inl (by simp)) _))) (fail)
  all_goals
    go_wp2_with fail
    refine (copied_ok (S := fun b => S b ∧ b < w.heap.size) s A cc _ (RowAt.keeps ((HR.out.mono (fun b hb hs => ⟨hs, hb⟩))) (Mod.keeps (F := No) ?_ (fun _ _ _ => id))) HP.out).mono ?_
    · repeat (first | with_reducible exact Mod.refl _ _ | refine Mod.alloc ?_ _ | refine Mod.drew ?_ | refine Mod.setCell ?_ (.inl (by simp)) _)
    rintro e w1 ⟨v, rfl, hv, hm⟩
    obtain ⟨A', c', rfl, hr'⟩ := hv.val
    have B1 := hm.obj (at31 w _ _ _) id
    have k1 := blk_cell B1
    have f1 := blk_free B1
    have z1 := lt_of_block B1
    have HM := Lib.hid ((((((Mod.refl No w).alloc _).alloc _).alloc _).drew).trans hm)
    have HR' := Lib.hid hr'
    clear hr' hm hv B1 hold hlk
    unfold Sess.val
    go_wp2
    refine bodyPost_ret (v := .tuple #[s.val A' c', .bool true]) (by simp [results, Try.results8, go_sem, Sess.val, k1]) rfl ⟨_, rfl, ⟨A', c', rfl, ?_⟩, ?_⟩
    · refine RowAt.mono (S := fun b => w.heap.size + 3 ≤ b) ((HR'.out.mono (S' := fun b => w.heap.size + 3 ≤ b) (fun b _ hb => by simpa using hb)).keeps (Mod.keeps (F := fun b => b < w.heap.size + 3) ?_ (fun b _ hb => by show ¬ b < _; omega))) (fun b _ hb => by show _ ≤ b; omega)
      repeat (first | with_reducible exact Mod.refl _ _ | refine Mod.setCell ?_ (.inr (by simp)) _)
    · repeat (first | with_reducible exact HM.out | refine Mod.setCell ?_ (.inl (by simp)) _)
theorem find_miss_ok {S : Nat → Prop} {w : World} {tb mb mo : Nat} {L : List Sess} (h : Tab w tb mb mo S L) (k : Key) (hk : k.wf) (hs : L.find? (fun s => s.key = k) = none) :
    Calls Try.prog 8 #[.pointer (some ⟨tb, 0, none⟩), k.val] w fun e w' => ∃ v, e = .returned (.tuple #[v, .bool false]) ∧ SessV (fun b => w.heap.size ≤ b) w' .zero v ∧ Mod No w w' := by
  obtain ⟨es, c, hb, hst, hall⟩ := h.byKey
  obtain ⟨kl, hkl⟩ := keyOfKey k hk
  rcases find_all2 hall (·.key) (fun _ _ h => h.1) k with ⟨h1, hn⟩ | ⟨j, s', e0, h1, h2, h3, ⟨h4, h5⟩, h6, h7⟩
  case inr => rw [h1] at hs; cases hs
  have hlk := lookup_miss (b := mb) (clock := c) keyedKey Try.underlying61 zeroSess (keysOk_by hall h.wf) hkl hn true
  simp only [if_true] at hlk
  have hlt := lt_of_block h.row
  have hlt' := lt_of_block hb
  have c0 : w.cell? ⟨tb, 0, none⟩ = some (.map (some mb)) := (blk_cell h.row 0).trans rfl
  have hold : ∀ w', Mod No (w.alloc (.cells #[.int .u8 k.proto, .int .u32 k.pt.ip, .int .u16 k.pt.port] 31)) w' → w'.cell? ⟨tb, 0, none⟩ = some (.map (some mb)) ∧ w'.cell? ⟨w.heap.size, 0, none⟩ = some (.int .u8 k.proto) ∧ w'.cell? ⟨w.heap.size, 1, none⟩ = some (.int .u32 k.pt.ip) ∧ w'.cell? ⟨w.heap.size, 2, none⟩ = some (.int .u16 k.pt.port) ∧ w'.heap[mb]? = some (.map es c) := by
    intro w' hm
    have B := hm.obj (at10 w _) id
    have hm' := ((Mod.refl No w).alloc _).trans hm
    exact ⟨hm'.cell c0 id, (blk_cell B 0).trans rfl, (blk_cell B 1).trans rfl, (blk_cell B 2).trans rfl, hm'.obj hb id⟩
  have HS := Lib.hid h
  clear h1 hn hst hall hkl h hs
  unfold Key.val Sess.val at *
  simp only [Sess.zero, Key.zero, Point.zero, List.length_nil] at hlk
  go_enter Try.func8, Try.ntmps8
  go_wp2
  go_region_held3 (fun w' => w'.cell? ⟨tb, 0, none⟩ = some (.map (some mb)) ∧ w'.cell? ⟨w.heap.size, 0, none⟩ = some (.int .u8 k.proto) ∧ w'.cell? ⟨w.heap.size, 1, none⟩ = some (.int .u32 k.pt.ip) ∧ w'.cell? ⟨w.heap.size, 2, none⟩ = some (.int .u16 k.pt.port) ∧ w'.heap[mb]? = some (.map es c))
    ((refine hold _ ?_; repeat (first | with_reducible exact Mod.refl _ _ | refine Mod.alloc ?_ _ | refine Mod.drew ?_ | refine Mod.setCell ?_ (.inl (by simp)) _))) (fail)
  all_goals
    go_wp2_with fail
    refine (copied_ok (S := No) Sess.zero none 0 _ (.nil _ _ _) (by decide)).mono ?_
    rintro e w1 ⟨v, rfl, hv, hm⟩
    obtain ⟨A', c', rfl, hr'⟩ := hv.val
    have B1 := hm.obj (at31 w _ _ _) id
    have k1 := blk_cell B1
    have f1 := blk_free B1
    have z1 := lt_of_block B1
    have HM := Lib.hid ((((((Mod.refl No w).alloc _).alloc _).alloc _).drew).trans hm)
    clear hr' hm hv B1 hold hlk
    unfold Sess.val
    simp only [Sess.zero, Key.zero, Point.zero, List.length_nil]
    go_wp2
    refine bodyPost_ret (v := .tuple #[Sess.zero.val A' c', .bool false]) (by simp [results, Try.results8, go_sem, Sess.val, k1, Sess.zero, Key.zero, Point.zero]) rfl ⟨_, rfl, ⟨A', c', rfl, .nil _ _ _⟩, ?_⟩
    repeat (first | with_reducible exact HM.out | refine Mod.setCell ?_ (.inl (by simp)) _)
end Go.Proofs.Ytimbhkbdmcbodaa
