/-
  Package sess, fourth part: Out, New, Len.
-/
import Derived.Test.YtimbhkbdmcbodaaSessC
namespace Go.Proofs.Ytimbhkbdmcbodaa
open Go.RowKit Go.MapKept Go.ChangeMaps
set_option linter.unusedVariables false

theorem nodup_keys {R : Sess → MapEntry → Prop} {L : List Sess} {es : Array MapEntry} {c : Nat} (hst : Stamped es c) (h : All2 R L es.toList) (f : Sess → Key) (hR : ∀ s e, R s e → e.key = (f s).val) {i j : Nat} {s t : Sess} (hi : L[i]? = some s) (hj : L[j]? = some t) (he : f s = f t) : i = j := by
  obtain ⟨e, he1, hr1⟩ := h.get hi
  obtain ⟨e', he2, hr2⟩ := h.get hj
  have e2 : (es.toList.map (·.key))[i]? = (es.toList.map (·.key))[j]? := by simp only [List.getElem?_map, he1, he2, Option.map_some, hR _ _ hr1, hR _ _ hr2, he]
  exact (List.getElem?_inj (by simpa using (List.getElem?_eq_some_iff.1 he1).1) hst.2.2).1 e2
theorem Tab.find_self {w : World} {tb mb mo : Nat} {S : Nat → Prop} {L : List Sess} (h : Tab w tb mb mo S L) {s : Sess} (hs : s ∈ L) : L.find? (fun x => x.key = s.key) = some s := by
  obtain ⟨es, c, hb, hst, hall⟩ := h.byKey
  obtain ⟨i, hi⟩ := List.getElem?_of_mem hs
  cases hf : L.find? (fun x => x.key = s.key) with
  | none => exact absurd (List.find?_eq_none.1 hf s hs) (by simp)
  | some t =>
    obtain ⟨j, hj⟩ := List.getElem?_of_mem (List.mem_of_find?_eq_some hf)
    have ht : t.key = s.key := by simpa using List.find?_some hf
    have := nodup_keys hst hall (·.key) (fun _ _ h => h.1) hj hi ht
    subst this
    rw [hi] at hj
    rw [hj]
theorem find_ok {S : Nat → Prop} {w : World} {tb mb mo : Nat} {L : List Sess} (h : Tab w tb mb mo S L) (k : Key) (hk : k.wf) :
    Calls Try.prog 8 #[.pointer (some ⟨tb, 0, none⟩), k.val] w fun e w' => ∃ v, e = .returned (.tuple #[v, .bool (L.find? (fun s => s.key = k)).isSome]) ∧ SessV (fun b => w.heap.size ≤ b) w' ((L.find? (fun s => s.key = k)).getD .zero) v ∧ Mod No w w' := by
  cases hf : L.find? (fun s => s.key = k) with
  | none => exact find_miss_ok h k hk hf
  | some s => exact find_hit_ok h k hk s hf

/-! ### Tab, carried -/
theorem Tab.keeps {w w' : World} {tb mb mo : Nat} {S : Nat → Prop} {L : List Sess} (h : Tab w tb mb mo S L) (hk : Keeps (fun b => S b ∨ b = tb ∨ b = mb ∨ b = mo) w w') : Tab w' tb mb mo S L := by
  obtain ⟨es, c, hb, hst, hall⟩ := h.byKey
  obtain ⟨es', c', hb', hst', hall'⟩ := h.byOut
  exact ⟨hk _ _ (by simp) h.row, ⟨es, c, hk _ _ (by simp) hb, hst, All2.imp (fun s e ⟨h1, h2⟩ => ⟨h1, h2.keeps (fun b o hs ho => hk b o (.inl hs) ho)⟩) hall⟩, ⟨es', c', hk _ _ (by simp) hb', hst', hall'⟩, h.ne, h.apart, h.wf⟩
theorem Tab.mod {w w' : World} {tb mb mo : Nat} {S : Nat → Prop} {L : List Sess} (h : Tab w tb mb mo S L) (hm : Mod No w w') : Tab w' tb mb mo S L := h.keeps (hm.keeps (fun _ _ _ => id))

/-! ### Out -/
theorem out_miss_ok {S : Nat → Prop} {w : World} {tb mb mo : Nat} {L : List Sess} (h : Tab w tb mb mo S L) (k : Key) (hk : k.wf) (hs : L.find? (fun s => s.of = k) = none) :
    Calls Try.prog 11 #[.pointer (some ⟨tb, 0, none⟩), .int .u8 k.proto, k.pt.val] w fun e w' => ∃ v, e = .returned (.tuple #[v, .bool false]) ∧ SessV (fun b => w.heap.size ≤ b) w' .zero v ∧ Mod No w w' := by
  obtain ⟨es, c, hb, hst, hall⟩ := h.byOut
  obtain ⟨kl, hkl⟩ := keyOfOuter k hk
  rcases find_all2 hall Sess.of (fun _ _ h => h.1) k with ⟨h1, hn⟩ | ⟨j, s', e0, h1, h2, h3, ⟨h4, h5⟩, h6, h7⟩
  case inr => rw [h1] at hs; cases hs
  have hlk := lookup_miss (b := mo) (clock := c) keyedOuter Try.underlying62 zeroKey (keysOk_out hall h.wf) hkl hn true
  simp only [if_true] at hlk
  have hlt := lt_of_block h.row
  have hlt' := lt_of_block hb
  have c0 : w.cell? ⟨tb, 1, none⟩ = some (.map (some mo)) := (blk_cell h.row 1).trans rfl
  have hold : ∀ w', Mod No (w.alloc (.cells #[.int .u32 k.pt.ip, .int .u16 k.pt.port] 26)) w' → w'.cell? ⟨tb, 1, none⟩ = some (.map (some mo)) ∧ w'.cell? ⟨w.heap.size, 0, none⟩ = some (.int .u32 k.pt.ip) ∧ w'.cell? ⟨w.heap.size, 1, none⟩ = some (.int .u16 k.pt.port) ∧ w'.heap[mo]? = some (.map es c) := by
    intro w' hm
    have B := hm.obj (at10 w _) id
    have hm' := ((Mod.refl No w).alloc _).trans hm
    exact ⟨hm'.cell c0 id, (blk_cell B 0).trans rfl, (blk_cell B 1).trans rfl, hm'.obj hb id⟩
  have HS := Lib.hid h
  clear h1 hn hst hall hkl h hs
  unfold Key.val Point.val at *
  simp only [Key.zero, Point.zero] at hlk
  go_enter Try.func11, Try.ntmps11
  go_wp2
  go_region_held3 (fun w' => w'.cell? ⟨tb, 1, none⟩ = some (.map (some mo)) ∧ w'.cell? ⟨w.heap.size, 0, none⟩ = some (.int .u32 k.pt.ip) ∧ w'.cell? ⟨w.heap.size, 1, none⟩ = some (.int .u16 k.pt.port) ∧ w'.heap[mo]? = some (.map es c))
    ((refine hold _ ?_; repeat (first | with_reducible exact Mod.refl _ _ | refine Mod.alloc ?_ _ | refine Mod.drew ?_ | refine Mod.setCell ?_ (.inl (by simp)) _))) (fail)
  all_goals
    go_wp2
    refine bodyPost_ret (v := .tuple #[Sess.zero.val none 0, .bool false]) (by simp [results, Try.results11, go_sem, Sess.val, Sess.zero, Key.zero, Point.zero]) rfl ⟨_, rfl, ⟨none, 0, rfl, .nil _ _ _⟩, ?_⟩
    repeat (first | with_reducible exact Mod.refl _ _ | refine Mod.alloc ?_ _ | refine Mod.drew ?_ | refine Mod.setCell ?_ (.inl (by simp)) _)
theorem out_hit_ok {S : Nat → Prop} {w : World} {tb mb mo : Nat} {L : List Sess} (h : Tab w tb mb mo S L) (k : Key) (hk : k.wf) (s : Sess) (hs : L.find? (fun s => s.of = k) = some s) :
    Calls Try.prog 11 #[.pointer (some ⟨tb, 0, none⟩), .int .u8 k.proto, k.pt.val] w fun e w' => ∃ v, e = .returned (.tuple #[v, .bool true]) ∧ SessV (fun b => w.heap.size ≤ b) w' s v ∧ Mod No w w' := by
  obtain ⟨es, c, hb, hst, hall⟩ := h.byOut
  obtain ⟨kl, hkl⟩ := keyOfOuter k hk
  rcases find_all2 hall Sess.of (fun _ _ h => h.1) k with ⟨h1, _⟩ | ⟨j, s', e0, h1, h2, h3, ⟨h4, h5⟩, h6, h7⟩
  · rw [h1] at hs; cases hs
  rw [h1] at hs
  cases hs
  have hmem := List.mem_of_getElem? h2
  have hself := h.find_self hmem
  have hlk := lookup_hit (b := mo) keyedOuter Try.underlying62 hst (keysOk_out hall h.wf) hkl h3 h6 true
  rw [h5] at hlk
  simp only [if_true] at hlk
  have hswf := (h.wf _ hmem).1
  have hlt := lt_of_block h.row
  have hlt' := lt_of_block hb
  have c0 : w.cell? ⟨tb, 1, none⟩ = some (.map (some mo)) := (blk_cell h.row 1).trans rfl
  have hold : ∀ w', Mod No (w.alloc (.cells #[.int .u32 k.pt.ip, .int .u16 k.pt.port] 26)) w' → w'.cell? ⟨tb, 1, none⟩ = some (.map (some mo)) ∧ w'.cell? ⟨w.heap.size, 0, none⟩ = some (.int .u32 k.pt.ip) ∧ w'.cell? ⟨w.heap.size, 1, none⟩ = some (.int .u16 k.pt.port) ∧ w'.heap[mo]? = some (.map es c) := by
    intro w' hm
    have B := hm.obj (at10 w _) id
    have hm' := ((Mod.refl No w).alloc _).trans hm
    exact ⟨hm'.cell c0 id, (blk_cell B 0).trans rfl, (blk_cell B 1).trans rfl, hm'.obj hb id⟩
  have HS := Lib.hid h
  have HF := Lib.hid hself
  clear h1 h2 h3 h4 h5 h6 h7 hst hall hkl h hself
  unfold Key.val Point.val at *
  go_enter Try.func11, Try.ntmps11
  go_wp2
  go_region_held3 (fun w' => w'.cell? ⟨tb, 1, none⟩ = some (.map (some mo)) ∧ w'.cell? ⟨w.heap.size, 0, none⟩ = some (.int .u32 k.pt.ip) ∧ w'.cell? ⟨w.heap.size, 1, none⟩ = some (.int .u16 k.pt.port) ∧ w'.heap[mo]? = some (.map es c))
    ((refine hold _ ?_; repeat (first | with_reducible exact Mod.refl _ _ | refine Mod.alloc ?_ _ | refine Mod.drew ?_ | refine Mod.setCell ?_ (.inl (by simp)) _))) (fail)
  all_goals
    go_wp2_with fail
    refine (find_hit_ok (S := S) (L := L) (tb := tb) (mb := mb) (mo := mo) (HS.out.mod ?_) s.key hswf s HF.out).mono ?_
    · repeat (first | with_reducible exact Mod.refl _ _ | refine Mod.alloc ?_ _ | refine Mod.drew ?_ | refine Mod.setCell ?_ (.inl (by simp)) _)
    rintro e w1 ⟨v, rfl, hv, hm⟩
    obtain ⟨A', c', rfl, hr'⟩ := hv.val
    have B1 := hm.obj (at31 w _ _ _) id
    have k1 := blk_cell B1
    have f1 := blk_free B1
    have z1 := lt_of_block B1
    have HM := Lib.hid ((((((Mod.refl No w).alloc _).alloc _).alloc _).drew).trans hm)
    have HR' := Lib.hid hr'
    clear hr' hm hv B1 hold hlk
    unfold Sess.val
    go_wp2
    refine bodyPost_ret (v := .tuple #[s.val A' c', .bool true]) (by simp [results, Try.results11, go_sem, Sess.val, k1]) rfl ⟨_, rfl, ⟨A', c', rfl, ?_⟩, ?_⟩
    · refine RowAt.mono (S := fun b => w.heap.size + 3 ≤ b) ((HR'.out.mono (S' := fun b => w.heap.size + 3 ≤ b) (fun b _ hb => by simpa using hb)).keeps (Mod.keeps (F := fun b => b < w.heap.size + 3) ?_ (fun b _ hb => by show ¬ b < _; omega))) (fun b _ hb => by show _ ≤ b; omega)
      repeat (first | with_reducible exact Mod.refl _ _ | refine Mod.setCell ?_ (.inr (by simp)) _)
    · repeat (first | with_reducible exact HM.out | refine Mod.setCell ?_ (.inl (by simp)) _)
theorem out_ok {S : Nat → Prop} {w : World} {tb mb mo : Nat} {L : List Sess} (h : Tab w tb mb mo S L) (k : Key) (hk : k.wf) :
    Calls Try.prog 11 #[.pointer (some ⟨tb, 0, none⟩), .int .u8 k.proto, k.pt.val] w fun e w' => ∃ v, e = .returned (.tuple #[v, .bool (L.find? (fun s => s.of = k)).isSome]) ∧ SessV (fun b => w.heap.size ≤ b) w' ((L.find? (fun s => s.of = k)).getD .zero) v ∧ Mod No w w' := by
  cases hf : L.find? (fun s => s.of = k) with
  | none => exact out_miss_ok h k hk hf
  | some s => exact out_hit_ok h k hk s hf

/-! ### New, Len -/
theorem new_ok (w : World) : Calls Try.prog 6 #[] w fun e w' => e = .returned (.pointer (some ⟨w.heap.size + 2, 0, none⟩)) ∧ Tab w' (w.heap.size + 2) w.heap.size (w.heap.size + 1) No [] ∧ Mod No w w' := by
  have h1 := @run_makeMap Try.prog
  go_enter Try.func6, Try.ntmps6
  go_wp2
  go_ret
  refine ⟨rfl, ⟨at32 w _ _ _, ⟨#[], 0, at30 w _ _ _, stamped_empty 0, trivial⟩, ⟨#[], 0, at31 w _ _ _, stamped_empty 0, trivial⟩, ⟨by omega, by omega, by omega⟩, ⟨id, id, id⟩, by simp⟩, (((Mod.refl _ _).alloc _).alloc _).alloc _⟩
theorem len_ok {S : Nat → Prop} {w : World} {tb mb mo : Nat} {L : List Sess} (h : Tab w tb mb mo S L) :
    Calls Try.prog 24 #[.pointer (some ⟨tb, 0, none⟩)] w fun e w' => e = .returned (.int .i64 L.length) ∧ w' = w := by
  obtain ⟨es, c, hb, hst, hall⟩ := h.byKey
  have hlen : es.size = L.length := by have := hall.length; simpa using this.symm
  have hl := fun ty => len_map (b := mb) (ty := ty) Try.underlying61 es c w hb
  rw [hlen] at hl
  have c0 : w.cell? ⟨tb, 0, none⟩ = some (.map (some mb)) := (blk_cell h.row 0).trans rfl
  clear h hst hall hlen hb
  go_enter Try.func24, Try.ntmps24
  go_wp2
  go_ret
  exact ⟨rfl, rfl⟩
end Go.Proofs.Ytimbhkbdmcbodaa
