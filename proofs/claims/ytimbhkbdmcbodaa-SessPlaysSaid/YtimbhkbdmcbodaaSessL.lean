/-
  Package sess: Put: what it does to the table's two maps.
  Conditions: none.
-/
import Derived.Test.YtimbhkbdmcbodaaSessJ
namespace Go.Proofs.Ytimbhkbdmcbodaa
open Go.RowKit Go.MapKept Go.ChangeMaps
set_option linter.unusedVariables false

/-- The session j with a new value under the same key and the same outside point. -/
theorem tab_set {S : Nat → Prop} {w W : World} {tb mb mo : Nat} {L : List Sess} (h : Tab w tb mb mo S L) {es : Array MapEntry} {c : Nat} (hb : w.heap[mb]? = some (.map es c)) (j : Nat) (s t : Sess) (hj : L[j]? = some s) (hk : t.key = s.key) (ho : t.out = s.out) (hp : t.peers.length ≤ 65536) (hW : Mod No w W) (v : Value) (hv : SessV (fun b => w.heap.size ≤ b ∧ b < W.heap.size) W t v) :
    Tab (setBlock W mb (.map (es.modify j (fun x => { x with val := v })) c)) tb mb mo (fun b => S b ∨ (w.heap.size ≤ b ∧ b < W.heap.size)) (L.set j t) := by
  have hlt := lt_of_block h.row
  have hlt1 := lt_of_block hb
  obtain ⟨n1, n2, n3⟩ := h.ne
  obtain ⟨a1, a2, a3⟩ := h.apart
  have hkeep : Keeps (fun b => S b ∨ (w.heap.size ≤ b ∧ b < W.heap.size)) W (setBlock W mb (.map (es.modify j (fun x => { x with val := v })) c)) := by
    intro b o hs hbo
    have e1 : b ≠ mb := by rintro rfl; rcases hs with hs | hs; exact a2 hs; omega
    rw [heap_setBlock_ne _ e1]
    exact hbo
  obtain ⟨e1, c1, g1, st1, al1⟩ := h.byKey
  obtain ⟨e2, c2, g2, st2, al2⟩ := h.byOut
  have hlt2 := lt_of_block g2
  rw [hb] at g1
  cases g1
  obtain ⟨e0, he0, hr0⟩ := al1.get hj
  obtain ⟨e2j, he2, hr2⟩ := al2.get hj
  have hof : t.of = s.of := by rw [Sess.of, Sess.of, hk, ho]
  have t1 : (es.modify j (fun x => { x with val := v })).toList = es.toList.set j { e0 with val := v } := by
    apply List.ext_getElem?
    intro i
    rw [Array.getElem?_toList, Array.getElem?_modify, List.getElem?_set]
    by_cases hij : j = i
    · subst hij
      have hl : j < es.toList.length := (List.getElem?_eq_some_iff.1 he0).1
      rw [if_pos rfl, if_pos rfl, if_pos hl]
      rw [Array.getElem?_toList] at he0
      rw [he0]
      rfl
    · rw [if_neg hij, if_neg hij, Array.getElem?_toList]
  have t2 : e2.toList.set j e2j = e2.toList := by
    apply List.ext_getElem?
    intro i
    rw [List.getElem?_set]
    by_cases hij : j = i
    · subst hij
      rw [if_pos rfl, if_pos (List.getElem?_eq_some_iff.1 he2).1, he2]
    · rw [if_neg hij]
  refine ⟨?_, ⟨_, _, heap_setBlock_self _ (Nat.lt_of_lt_of_le hlt1 hW.size), stamped_modify st1 j _ (fun _ _ => rfl) (fun _ _ _ => rfl), ?_⟩, ⟨_, _, ?_, st2, ?_⟩, h.ne, ⟨fun hh => ?_, fun hh => ?_, fun hh => ?_⟩, ?_⟩
  · rw [heap_setBlock_ne _ n1]
    exact hW.obj h.row id
  · rw [t1]
    refine All2.set ⟨?_, (hv.mono (fun b _ hs => .inr hs)).keeps hkeep⟩ (All2.imp (fun x y ⟨q1, q2⟩ => ⟨q1, ((q2.keeps (hW.keeps (fun _ _ _ => id))).mono (fun b _ hs => .inl hs)).keeps hkeep⟩) al1) j
    rw [hk]
    exact hr0.1
  · rw [heap_setBlock_ne _ (fun e => n3 e.symm)]
    exact hW.obj g2 id
  · rw [← t2]
    exact All2.set ⟨by rw [hof]; exact hr2.1, by rw [hk]; exact hr2.2⟩ al2 j
  · rcases hh with hh | hh; exact a1 hh; omega
  · rcases hh with hh | hh; exact a2 hh; omega
  · rcases hh with hh | hh; exact a3 hh; omega
  · intro x hx
    rcases List.mem_or_eq_of_mem_set hx with hx | rfl
    · exact h.wf x hx
    · have hs := h.wf s (List.mem_of_getElem? hj)
      exact ⟨hk ▸ hs.1, ho ▸ hs.2.1, hp⟩

set_option maxHeartbeats 1600000 in
set_option maxRecDepth 100000 in
theorem put_miss_ok {S : Nat → Prop} {w : World} {tb mb mo : Nat} {L : List Sess} (h : Tab w tb mb mo S L) (s : Sess) (A : Option Addr) (cc : Nat) (hk : s.key.wf) (hn : L.find? (fun x => x.key = s.key) = none) :
    Calls Try.prog 16 #[.pointer (some ⟨tb, 0, none⟩), s.val A cc] w fun e w' => e = .returned (.bool false) ∧ Mod No w w' := by
  obtain ⟨es, c, hb, hst, hall⟩ := h.byKey
  obtain ⟨x, B, d, hx1, hx2, hx3, hl1⟩ := by_lookup h s.key hk hb
  rw [hn] at hl1
  simp only [Option.isSome_none] at hl1
  have hlt := lt_of_block h.row
  have hlt' := lt_of_block hb
  have c0 : w.cell? ⟨tb, 0, none⟩ = some (.map (some mb)) := (blk_cell h.row 0).trans rfl
  have hold : ∀ w', Mod No (w.alloc (.cells #[.int .u8 s.key.proto, .int .u32 s.key.pt.ip, .int .u16 s.key.pt.port, .int .u32 s.out.ip, .int .u16 s.out.port, .int .u32 s.gen, .slice A s.peers.length cc, .int .i64 s.state, .int .u32 s.til] 35)) w' → w'.cell? ⟨tb, 0, none⟩ = some (.map (some mb)) ∧ w'.heap[mb]? = some (.map es c) ∧ w'.cell? ⟨w.heap.size, 0, none⟩ = some (.int .u8 s.key.proto) ∧ w'.cell? ⟨w.heap.size, 1, none⟩ = some (.int .u32 s.key.pt.ip) ∧ w'.cell? ⟨w.heap.size, 2, none⟩ = some (.int .u16 s.key.pt.port) ∧ w'.cell? ⟨w.heap.size, 3, none⟩ = some (.int .u32 s.out.ip) ∧ w'.cell? ⟨w.heap.size, 4, none⟩ = some (.int .u16 s.out.port) ∧ w'.cell? ⟨w.heap.size, 5, none⟩ = some (.int .u32 s.gen) ∧ w'.cell? ⟨w.heap.size, 6, none⟩ = some (.slice A s.peers.length cc) ∧ w'.cell? ⟨w.heap.size, 7, none⟩ = some (.int .i64 s.state) ∧ w'.cell? ⟨w.heap.size, 8, none⟩ = some (.int .u32 s.til) := by
    intro w' hm
    have B := hm.obj (at10 w _) id
    have hm' := ((Mod.refl No w).alloc _).trans hm
    exact ⟨hm'.cell c0 id, hm'.obj hb id, (blk_cell B 0).trans rfl, (blk_cell B 1).trans rfl, (blk_cell B 2).trans rfl, (blk_cell B 3).trans rfl, (blk_cell B 4).trans rfl, (blk_cell B 5).trans rfl, (blk_cell B 6).trans rfl, (blk_cell B 7).trans rfl, (blk_cell B 8).trans rfl⟩
  clear hst hall hx1 hx2 hx3 h hn
  unfold Key.val Sess.val at *
  go_enter Try.func16, Try.ntmps16
  go_wp2_with fail
  go_region_held3 (fun w' => w'.cell? ⟨tb, 0, none⟩ = some (.map (some mb)) ∧ w'.heap[mb]? = some (.map es c) ∧ w'.cell? ⟨w.heap.size, 0, none⟩ = some (.int .u8 s.key.proto) ∧ w'.cell? ⟨w.heap.size, 1, none⟩ = some (.int .u32 s.key.pt.ip) ∧ w'.cell? ⟨w.heap.size, 2, none⟩ = some (.int .u16 s.key.pt.port) ∧ w'.cell? ⟨w.heap.size, 3, none⟩ = some (.int .u32 s.out.ip) ∧ w'.cell? ⟨w.heap.size, 4, none⟩ = some (.int .u16 s.out.port) ∧ w'.cell? ⟨w.heap.size, 5, none⟩ = some (.int .u32 s.gen) ∧ w'.cell? ⟨w.heap.size, 6, none⟩ = some (.slice A s.peers.length cc) ∧ w'.cell? ⟨w.heap.size, 7, none⟩ = some (.int .i64 s.state) ∧ w'.cell? ⟨w.heap.size, 8, none⟩ = some (.int .u32 s.til))
    ((refine hold _ ?_; repeat (first | with_reducible exact Mod.refl _ _ | refine Mod.alloc ?_ _ | refine Mod.drew ?_ | refine Mod.setCell ?_ (.inl (by simp)) _))) (fail)
  all_goals
    go_wp2_with fail
    go_ret
    exact ⟨rfl, by repeat (first | with_reducible exact Mod.refl _ _ | refine Mod.alloc ?_ _ | refine Mod.drew ?_ | refine Mod.setCell ?_ (.inl (by simp)) _)⟩

end Go.Proofs.Ytimbhkbdmcbodaa
