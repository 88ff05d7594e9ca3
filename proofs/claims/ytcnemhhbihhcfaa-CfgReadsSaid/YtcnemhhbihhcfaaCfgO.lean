/-
  Package cfg: the tenant's closures that code how many there are of something, both ways.
-/
import Derived.Test.YtcnemhhbihhcfaaCfgN
namespace Go.Proofs.Ytcnemhhbihhcfaa
open Go.RowKit
set_option linter.unusedVariables false

set_option maxRecDepth 100000 in
theorem ten_npool_wr {w : World} {C base : Nat} {L : List UInt8} {v : Value} {bc bt bp T o : Nat} (h : Wr w C base L v) (hb : base ≤ w.heap.size) (hL : L.length ≤ 90000000) (hx : Boxes w bc bt C T o)
    {P : Option Addr} {n p : Nat} (hT : w.cell? ⟨T, o + 23, none⟩ = some (.slice P n p)) {x0 : Value} (hp : w.heap[bp]? = some (.cells #[x0] 3 (0, 0))) (h3 : bp ≠ C) (h4 : v.ownBlock ≠ some bp) :
    Calls Try.prog 67 #[.pointer (some ⟨bc, 0, none⟩), .pointer (some ⟨bt, 0, none⟩), .pointer (some ⟨bp, 0, none⟩)] w fun e w' => e = .returned (.tuple #[]) ∧ ∃ v', Wr w' C base (L ++ be 1 (min n 255)) v' ∧
      w'.heap[bp]? = some (.cells #[.int .i64 (min n 255 : Nat)] 3 (0, 0)) ∧ Mod (fun b => b = C ∨ v.ownBlock = some b ∨ b = bp) w w' ∧ (∀ g, v'.ownBlock = some g → v.ownBlock = some g ∨ w.heap.size ≤ g) := by
  obtain ⟨m, hm⟩ : ∃ m, m = min n 255 := ⟨_, rfl⟩
  rw [← hm]
  have hd : ∀ W, W = w.drew → Calls Try.prog 68 #[.pointer (some ⟨C, 0, none⟩), .int .i64 n] W fun e w' => e = .returned (.int .i64 m) ∧ w'.cell? ⟨bp, 0, none⟩ = some x0 ∧ w'.frozen? ⟨bp, 0, none⟩ = false ∧ ∃ v', Wr (w'.setCell ⟨bp, 0, none⟩ (.int .i64 m)) C base (L ++ be 1 m) v' ∧
      (w'.setCell ⟨bp, 0, none⟩ (.int .i64 m)).heap[bp]? = some (.cells #[.int .i64 m] 3 (0, 0)) ∧ Mod (fun b => b = C ∨ v.ownBlock = some b ∨ b = bp) w (w'.setCell ⟨bp, 0, none⟩ (.int .i64 m)) ∧ (∀ g, v'.ownBlock = some g → v.ownBlock = some g ∨ w.heap.size ≤ g) := by
    intro W hW
    subst hW
    have hc := count_wr (w := w.drew) ⟨h.blk, h.own⟩ hb hL n
    rw [← hm] at hc
    refine hc.mono fun e w' ⟨he, v', a1, a2⟩ => ?_
    have hp' : w'.heap[bp]? = some (.cells #[x0] 3 (0, 0)) := a2.obj (w := w.drew) hp h3 h4
    have hne : v'.ownBlock ≠ some bp := a1.ne hp' (by decide)
    refine ⟨he, (blk_cell hp' 0).trans rfl, blk_free hp' 0, v', ⟨?_, own_mod a1.own (Mod.setCell (p := ⟨bp, 0, none⟩) (Mod.refl (fun b => b = bp) w') (.inr rfl) _) (fun g hg e => hne (by rw [← e]; exact hg))⟩, ?_, ?_, fun g hg => a2.row g hg⟩
    · rw [heap_setCell_ne _ _ (fun e => h3 e.symm)]
      exact a1.blk
    · rw [heap_setCell_row hp']; simp
    · refine Mod.setCell ((Mod.refl _ w).drew.trans (a2.mod.mono (fun i hi => ?_))) (.inr (.inr (.inr rfl))) _
      rcases hi with h | h
      · exact .inl h
      · exact .inr (.inl h)
  have c0 := blk_cell hx.c 0
  have c1 := blk_cell hx.t 0
  simp at c0 c1
  obtain ⟨R, hR⟩ : ∃ R : World → Prop, R = fun w' => ∃ v', Wr w' C base (L ++ be 1 m) v' ∧ w'.heap[bp]? = some (.cells #[.int .i64 m] 3 (0, 0)) ∧ Mod (fun b => b = C ∨ v.ownBlock = some b ∨ b = bp) w w' ∧ (∀ g, v'.ownBlock = some g → v.ownBlock = some g ∨ w.heap.size ≤ g) := ⟨_, rfl⟩
  have hd' : ∀ W, W = w.drew → Calls Try.prog 68 #[.pointer (some ⟨C, 0, none⟩), .int .i64 n] W fun e w' => e = .returned (.int .i64 m) ∧ w'.cell? ⟨bp, 0, none⟩ = some x0 ∧ w'.frozen? ⟨bp, 0, none⟩ = false ∧ R (w'.setCell ⟨bp, 0, none⟩ (.int .i64 m)) := by
    rw [hR]; exact hd
  suffices hs : Calls Try.prog 67 #[.pointer (some ⟨bc, 0, none⟩), .pointer (some ⟨bt, 0, none⟩), .pointer (some ⟨bp, 0, none⟩)] w fun e w' => e = .returned (.tuple #[]) ∧ R w' by
    rw [hR] at hs; exact hs
  have HD := Lib.hid hd'
  clear h hb hL hx hp h3 h4 hd hd' hR hm
  go_enter Try.func67, Try.ntmps67
  go_wp2_with fail
  go_region_law (first | (go_simp; go_at_call 68; refine (HD.out _ rfl).mono ?_; rintro e w1 ⟨rfl, d1, f1, hr⟩; have HW := Lib.hid hr; clear hr))
  all_goals
    go_wp2
    first | go_end0 | (simp only [Exit.inBlock, Exit.then]; refine bodyPost_ret (results_none rfl _ _ _) rfl ?_) | refine bodyPost_ret (results_none rfl _ _ _) rfl ?_
    exact ⟨rfl, HW.out⟩

set_option maxRecDepth 100000 in
theorem ten_nstatics_wr {w : World} {C base : Nat} {L : List UInt8} {v : Value} {bc bt bp T o : Nat} (h : Wr w C base L v) (hb : base ≤ w.heap.size) (hL : L.length ≤ 90000000) (hx : Boxes w bc bt C T o)
    {P : Option Addr} {n p : Nat} (hT : w.cell? ⟨T, o + 27, none⟩ = some (.slice P n p)) {x0 : Value} (hp : w.heap[bp]? = some (.cells #[x0] 3 (0, 0))) (h3 : bp ≠ C) (h4 : v.ownBlock ≠ some bp) :
    Calls Try.prog 69 #[.pointer (some ⟨bc, 0, none⟩), .pointer (some ⟨bt, 0, none⟩), .pointer (some ⟨bp, 0, none⟩)] w fun e w' => e = .returned (.tuple #[]) ∧ ∃ v', Wr w' C base (L ++ be 1 (min n 255)) v' ∧
      w'.heap[bp]? = some (.cells #[.int .i64 (min n 255 : Nat)] 3 (0, 0)) ∧ Mod (fun b => b = C ∨ v.ownBlock = some b ∨ b = bp) w w' ∧ (∀ g, v'.ownBlock = some g → v.ownBlock = some g ∨ w.heap.size ≤ g) := by
  obtain ⟨m, hm⟩ : ∃ m, m = min n 255 := ⟨_, rfl⟩
  rw [← hm]
  have hd : ∀ W, W = w.drew → Calls Try.prog 68 #[.pointer (some ⟨C, 0, none⟩), .int .i64 n] W fun e w' => e = .returned (.int .i64 m) ∧ w'.cell? ⟨bp, 0, none⟩ = some x0 ∧ w'.frozen? ⟨bp, 0, none⟩ = false ∧ ∃ v', Wr (w'.setCell ⟨bp, 0, none⟩ (.int .i64 m)) C base (L ++ be 1 m) v' ∧
      (w'.setCell ⟨bp, 0, none⟩ (.int .i64 m)).heap[bp]? = some (.cells #[.int .i64 m] 3 (0, 0)) ∧ Mod (fun b => b = C ∨ v.ownBlock = some b ∨ b = bp) w (w'.setCell ⟨bp, 0, none⟩ (.int .i64 m)) ∧ (∀ g, v'.ownBlock = some g → v.ownBlock = some g ∨ w.heap.size ≤ g) := by
    intro W hW
    subst hW
    have hc := count_wr (w := w.drew) ⟨h.blk, h.own⟩ hb hL n
    rw [← hm] at hc
    refine hc.mono fun e w' ⟨he, v', a1, a2⟩ => ?_
    have hp' : w'.heap[bp]? = some (.cells #[x0] 3 (0, 0)) := a2.obj (w := w.drew) hp h3 h4
    have hne : v'.ownBlock ≠ some bp := a1.ne hp' (by decide)
    refine ⟨he, (blk_cell hp' 0).trans rfl, blk_free hp' 0, v', ⟨?_, own_mod a1.own (Mod.setCell (p := ⟨bp, 0, none⟩) (Mod.refl (fun b => b = bp) w') (.inr rfl) _) (fun g hg e => hne (by rw [← e]; exact hg))⟩, ?_, ?_, fun g hg => a2.row g hg⟩
    · rw [heap_setCell_ne _ _ (fun e => h3 e.symm)]
      exact a1.blk
    · rw [heap_setCell_row hp']; simp
    · refine Mod.setCell ((Mod.refl _ w).drew.trans (a2.mod.mono (fun i hi => ?_))) (.inr (.inr (.inr rfl))) _
      rcases hi with h | h
      · exact .inl h
      · exact .inr (.inl h)
  have c0 := blk_cell hx.c 0
  have c1 := blk_cell hx.t 0
  simp at c0 c1
  obtain ⟨R, hR⟩ : ∃ R : World → Prop, R = fun w' => ∃ v', Wr w' C base (L ++ be 1 m) v' ∧ w'.heap[bp]? = some (.cells #[.int .i64 m] 3 (0, 0)) ∧ Mod (fun b => b = C ∨ v.ownBlock = some b ∨ b = bp) w w' ∧ (∀ g, v'.ownBlock = some g → v.ownBlock = some g ∨ w.heap.size ≤ g) := ⟨_, rfl⟩
  have hd' : ∀ W, W = w.drew → Calls Try.prog 68 #[.pointer (some ⟨C, 0, none⟩), .int .i64 n] W fun e w' => e = .returned (.int .i64 m) ∧ w'.cell? ⟨bp, 0, none⟩ = some x0 ∧ w'.frozen? ⟨bp, 0, none⟩ = false ∧ R (w'.setCell ⟨bp, 0, none⟩ (.int .i64 m)) := by
    rw [hR]; exact hd
  suffices hs : Calls Try.prog 69 #[.pointer (some ⟨bc, 0, none⟩), .pointer (some ⟨bt, 0, none⟩), .pointer (some ⟨bp, 0, none⟩)] w fun e w' => e = .returned (.tuple #[]) ∧ R w' by
    rw [hR] at hs; exact hs
  have HD := Lib.hid hd'
  clear h hb hL hx hp h3 h4 hd hd' hR hm
  go_enter Try.func69, Try.ntmps69
  go_wp2_with fail
  go_region_law (first | (go_simp; go_at_call 68; refine (HD.out _ rfl).mono ?_; rintro e w1 ⟨rfl, d1, f1, hr⟩; have HW := Lib.hid hr; clear hr))
  all_goals
    go_wp2
    first | go_end0 | (simp only [Exit.inBlock, Exit.then]; refine bodyPost_ret (results_none rfl _ _ _) rfl ?_) | refine bodyPost_ret (results_none rfl _ _ _) rfl ?_
    exact ⟨rfl, HW.out⟩

set_option maxRecDepth 100000 in
theorem ten_ntwices_wr {w : World} {C base : Nat} {L : List UInt8} {v : Value} {bc bt bp T o : Nat} (h : Wr w C base L v) (hb : base ≤ w.heap.size) (hL : L.length ≤ 90000000) (hx : Boxes w bc bt C T o)
    {P : Option Addr} {n p : Nat} (hT : w.cell? ⟨T, o + 28, none⟩ = some (.slice P n p)) {x0 : Value} (hp : w.heap[bp]? = some (.cells #[x0] 3 (0, 0))) (h3 : bp ≠ C) (h4 : v.ownBlock ≠ some bp) :
    Calls Try.prog 70 #[.pointer (some ⟨bc, 0, none⟩), .pointer (some ⟨bt, 0, none⟩), .pointer (some ⟨bp, 0, none⟩)] w fun e w' => e = .returned (.tuple #[]) ∧ ∃ v', Wr w' C base (L ++ be 1 (min n 255)) v' ∧
      w'.heap[bp]? = some (.cells #[.int .i64 (min n 255 : Nat)] 3 (0, 0)) ∧ Mod (fun b => b = C ∨ v.ownBlock = some b ∨ b = bp) w w' ∧ (∀ g, v'.ownBlock = some g → v.ownBlock = some g ∨ w.heap.size ≤ g) := by
  obtain ⟨m, hm⟩ : ∃ m, m = min n 255 := ⟨_, rfl⟩
  rw [← hm]
  have hd : ∀ W, W = w.drew → Calls Try.prog 68 #[.pointer (some ⟨C, 0, none⟩), .int .i64 n] W fun e w' => e = .returned (.int .i64 m) ∧ w'.cell? ⟨bp, 0, none⟩ = some x0 ∧ w'.frozen? ⟨bp, 0, none⟩ = false ∧ ∃ v', Wr (w'.setCell ⟨bp, 0, none⟩ (.int .i64 m)) C base (L ++ be 1 m) v' ∧
      (w'.setCell ⟨bp, 0, none⟩ (.int .i64 m)).heap[bp]? = some (.cells #[.int .i64 m] 3 (0, 0)) ∧ Mod (fun b => b = C ∨ v.ownBlock = some b ∨ b = bp) w (w'.setCell ⟨bp, 0, none⟩ (.int .i64 m)) ∧ (∀ g, v'.ownBlock = some g → v.ownBlock = some g ∨ w.heap.size ≤ g) := by
    intro W hW
    subst hW
    have hc := count_wr (w := w.drew) ⟨h.blk, h.own⟩ hb hL n
    rw [← hm] at hc
    refine hc.mono fun e w' ⟨he, v', a1, a2⟩ => ?_
    have hp' : w'.heap[bp]? = some (.cells #[x0] 3 (0, 0)) := a2.obj (w := w.drew) hp h3 h4
    have hne : v'.ownBlock ≠ some bp := a1.ne hp' (by decide)
    refine ⟨he, (blk_cell hp' 0).trans rfl, blk_free hp' 0, v', ⟨?_, own_mod a1.own (Mod.setCell (p := ⟨bp, 0, none⟩) (Mod.refl (fun b => b = bp) w') (.inr rfl) _) (fun g hg e => hne (by rw [← e]; exact hg))⟩, ?_, ?_, fun g hg => a2.row g hg⟩
    · rw [heap_setCell_ne _ _ (fun e => h3 e.symm)]
      exact a1.blk
    · rw [heap_setCell_row hp']; simp
    · refine Mod.setCell ((Mod.refl _ w).drew.trans (a2.mod.mono (fun i hi => ?_))) (.inr (.inr (.inr rfl))) _
      rcases hi with h | h
      · exact .inl h
      · exact .inr (.inl h)
  have c0 := blk_cell hx.c 0
  have c1 := blk_cell hx.t 0
  simp at c0 c1
  obtain ⟨R, hR⟩ : ∃ R : World → Prop, R = fun w' => ∃ v', Wr w' C base (L ++ be 1 m) v' ∧ w'.heap[bp]? = some (.cells #[.int .i64 m] 3 (0, 0)) ∧ Mod (fun b => b = C ∨ v.ownBlock = some b ∨ b = bp) w w' ∧ (∀ g, v'.ownBlock = some g → v.ownBlock = some g ∨ w.heap.size ≤ g) := ⟨_, rfl⟩
  have hd' : ∀ W, W = w.drew → Calls Try.prog 68 #[.pointer (some ⟨C, 0, none⟩), .int .i64 n] W fun e w' => e = .returned (.int .i64 m) ∧ w'.cell? ⟨bp, 0, none⟩ = some x0 ∧ w'.frozen? ⟨bp, 0, none⟩ = false ∧ R (w'.setCell ⟨bp, 0, none⟩ (.int .i64 m)) := by
    rw [hR]; exact hd
  suffices hs : Calls Try.prog 70 #[.pointer (some ⟨bc, 0, none⟩), .pointer (some ⟨bt, 0, none⟩), .pointer (some ⟨bp, 0, none⟩)] w fun e w' => e = .returned (.tuple #[]) ∧ R w' by
    rw [hR] at hs; exact hs
  have HD := Lib.hid hd'
  clear h hb hL hx hp h3 h4 hd hd' hR hm
  go_enter Try.func70, Try.ntmps70
  go_wp2_with fail
  go_region_law (first | (go_simp; go_at_call 68; refine (HD.out _ rfl).mono ?_; rintro e w1 ⟨rfl, d1, f1, hr⟩; have HW := Lib.hid hr; clear hr))
  all_goals
    go_wp2
    first | go_end0 | (simp only [Exit.inBlock, Exit.then]; refine bodyPost_ret (results_none rfl _ _ _) rfl ?_) | refine bodyPost_ret (results_none rfl _ _ _) rfl ?_
    exact ⟨rfl, HW.out⟩

set_option maxRecDepth 100000 in
theorem ten_npool_rd {S : Nat → Prop} {w : World} {C : Nat} {A : Option Addr} {c at_ : Nat} {sh : Bool} (B : List UInt8) (hb : w.heap[C]? = some (rdObj A B.length c at_ sh)) (hrow : RowAt S w A (bcells B)) (hat : at_ ≤ B.length) (hc : B.length ≤ c) (hB : B.length ≤ 100000000) (hS : ¬ S C) {bc bt bp T o : Nat} (hx : Boxes w bc bt C T o)
    {P : Option Addr} {n p : Nat} (hT : w.cell? ⟨T, o + 23, none⟩ = some (.slice P n p)) {x0 : Value} (hp : w.heap[bp]? = some (.cells #[x0] 3 (0, 0))) (h3 : bp ≠ C) :
    Calls Try.prog 67 #[.pointer (some ⟨bc, 0, none⟩), .pointer (some ⟨bt, 0, none⟩), .pointer (some ⟨bp, 0, none⟩)] w fun e w' => e = .returned (.tuple #[]) ∧ w'.heap[C]? = some (rdObj A B.length c (rtake B (at_, sh) 1).2.1 (rtake B (at_, sh) 1).2.2) ∧
      w'.heap[bp]? = some (.cells #[.int .i64 (beval (rtake B (at_, sh) 1).1)] 3 (0, 0)) ∧ Mod (fun b => b = C ∨ b = bp) w w' := by
  obtain ⟨m, hm⟩ : ∃ m, m = beval (rtake B (at_, sh) 1).1 := ⟨_, rfl⟩
  rw [← hm]
  obtain ⟨R, hR⟩ : ∃ R : World → Prop, R = fun w' => w'.heap[C]? = some (rdObj A B.length c (rtake B (at_, sh) 1).2.1 (rtake B (at_, sh) 1).2.2) ∧ w'.heap[bp]? = some (.cells #[.int .i64 m] 3 (0, 0)) ∧ Mod (fun b => b = C ∨ b = bp) w w' := ⟨_, rfl⟩
  have hd : ∀ W, W = w.drew → Calls Try.prog 68 #[.pointer (some ⟨C, 0, none⟩), .int .i64 n] W fun e w' => e = .returned (.int .i64 m) ∧ w'.cell? ⟨bp, 0, none⟩ = some x0 ∧ w'.frozen? ⟨bp, 0, none⟩ = false ∧ R (w'.setCell ⟨bp, 0, none⟩ (.int .i64 m)) := by
    intro W hW
    subst hW
    have hcr := count_rd (w := w.drew) B hb (hrow.keeps (Mod.keeps (Mod.drew (Mod.refl No w)) (fun _ _ _ f => f))) hat hc hB hS n
    rw [← hm] at hcr
    refine hcr.mono fun e w' ⟨he, a1, a2⟩ => ?_
    have hp' : w'.heap[bp]? = some (.cells #[x0] 3 (0, 0)) := a2.obj (w := w.drew) hp h3
    rw [hR]
    refine ⟨he, (blk_cell hp' 0).trans rfl, blk_free hp' 0, ?_, ?_, ?_⟩
    · rw [heap_setCell_ne _ _ (fun e => h3 e.symm)]
      exact a1
    · rw [heap_setCell_row hp']; simp
    · exact Mod.setCell ((Mod.refl _ w).drew.trans (a2.mono (fun i hi => .inl hi))) (.inr (.inr rfl)) _
  have c0 := blk_cell hx.c 0
  have c1 := blk_cell hx.t 0
  simp at c0 c1
  suffices hs : Calls Try.prog 67 #[.pointer (some ⟨bc, 0, none⟩), .pointer (some ⟨bt, 0, none⟩), .pointer (some ⟨bp, 0, none⟩)] w fun e w' => e = .returned (.tuple #[]) ∧ R w' by
    rw [hR] at hs; exact hs
  have HD := Lib.hid hd
  clear hb hrow hat hc hB hS hx hp h3 hd hR hm
  go_enter Try.func67, Try.ntmps67
  go_wp2_with fail
  go_region_law (first | (go_simp; go_at_call 68; refine (HD.out _ rfl).mono ?_; rintro e w1 ⟨rfl, d1, f1, hr⟩; have HW := Lib.hid hr; clear hr))
  all_goals
    go_wp2
    first | go_end0 | (simp only [Exit.inBlock, Exit.then]; refine bodyPost_ret (results_none rfl _ _ _) rfl ?_) | refine bodyPost_ret (results_none rfl _ _ _) rfl ?_
    exact ⟨rfl, HW.out⟩

set_option maxRecDepth 100000 in
theorem ten_nstatics_rd {S : Nat → Prop} {w : World} {C : Nat} {A : Option Addr} {c at_ : Nat} {sh : Bool} (B : List UInt8) (hb : w.heap[C]? = some (rdObj A B.length c at_ sh)) (hrow : RowAt S w A (bcells B)) (hat : at_ ≤ B.length) (hc : B.length ≤ c) (hB : B.length ≤ 100000000) (hS : ¬ S C) {bc bt bp T o : Nat} (hx : Boxes w bc bt C T o)
    {P : Option Addr} {n p : Nat} (hT : w.cell? ⟨T, o + 27, none⟩ = some (.slice P n p)) {x0 : Value} (hp : w.heap[bp]? = some (.cells #[x0] 3 (0, 0))) (h3 : bp ≠ C) :
    Calls Try.prog 69 #[.pointer (some ⟨bc, 0, none⟩), .pointer (some ⟨bt, 0, none⟩), .pointer (some ⟨bp, 0, none⟩)] w fun e w' => e = .returned (.tuple #[]) ∧ w'.heap[C]? = some (rdObj A B.length c (rtake B (at_, sh) 1).2.1 (rtake B (at_, sh) 1).2.2) ∧
      w'.heap[bp]? = some (.cells #[.int .i64 (beval (rtake B (at_, sh) 1).1)] 3 (0, 0)) ∧ Mod (fun b => b = C ∨ b = bp) w w' := by
  obtain ⟨m, hm⟩ : ∃ m, m = beval (rtake B (at_, sh) 1).1 := ⟨_, rfl⟩
  rw [← hm]
  obtain ⟨R, hR⟩ : ∃ R : World → Prop, R = fun w' => w'.heap[C]? = some (rdObj A B.length c (rtake B (at_, sh) 1).2.1 (rtake B (at_, sh) 1).2.2) ∧ w'.heap[bp]? = some (.cells #[.int .i64 m] 3 (0, 0)) ∧ Mod (fun b => b = C ∨ b = bp) w w' := ⟨_, rfl⟩
  have hd : ∀ W, W = w.drew → Calls Try.prog 68 #[.pointer (some ⟨C, 0, none⟩), .int .i64 n] W fun e w' => e = .returned (.int .i64 m) ∧ w'.cell? ⟨bp, 0, none⟩ = some x0 ∧ w'.frozen? ⟨bp, 0, none⟩ = false ∧ R (w'.setCell ⟨bp, 0, none⟩ (.int .i64 m)) := by
    intro W hW
    subst hW
    have hcr := count_rd (w := w.drew) B hb (hrow.keeps (Mod.keeps (Mod.drew (Mod.refl No w)) (fun _ _ _ f => f))) hat hc hB hS n
    rw [← hm] at hcr
    refine hcr.mono fun e w' ⟨he, a1, a2⟩ => ?_
    have hp' : w'.heap[bp]? = some (.cells #[x0] 3 (0, 0)) := a2.obj (w := w.drew) hp h3
    rw [hR]
    refine ⟨he, (blk_cell hp' 0).trans rfl, blk_free hp' 0, ?_, ?_, ?_⟩
    · rw [heap_setCell_ne _ _ (fun e => h3 e.symm)]
      exact a1
    · rw [heap_setCell_row hp']; simp
    · exact Mod.setCell ((Mod.refl _ w).drew.trans (a2.mono (fun i hi => .inl hi))) (.inr (.inr rfl)) _
  have c0 := blk_cell hx.c 0
  have c1 := blk_cell hx.t 0
  simp at c0 c1
  suffices hs : Calls Try.prog 69 #[.pointer (some ⟨bc, 0, none⟩), .pointer (some ⟨bt, 0, none⟩), .pointer (some ⟨bp, 0, none⟩)] w fun e w' => e = .returned (.tuple #[]) ∧ R w' by
    rw [hR] at hs; exact hs
  have HD := Lib.hid hd
  clear hb hrow hat hc hB hS hx hp h3 hd hR hm
  go_enter Try.func69, Try.ntmps69
  go_wp2_with fail
  go_region_law (first | (go_simp; go_at_call 68; refine (HD.out _ rfl).mono ?_; rintro e w1 ⟨rfl, d1, f1, hr⟩; have HW := Lib.hid hr; clear hr))
  all_goals
    go_wp2
    first | go_end0 | (simp only [Exit.inBlock, Exit.then]; refine bodyPost_ret (results_none rfl _ _ _) rfl ?_) | refine bodyPost_ret (results_none rfl _ _ _) rfl ?_
    exact ⟨rfl, HW.out⟩

set_option maxRecDepth 100000 in
theorem ten_ntwices_rd {S : Nat → Prop} {w : World} {C : Nat} {A : Option Addr} {c at_ : Nat} {sh : Bool} (B : List UInt8) (hb : w.heap[C]? = some (rdObj A B.length c at_ sh)) (hrow : RowAt S w A (bcells B)) (hat : at_ ≤ B.length) (hc : B.length ≤ c) (hB : B.length ≤ 100000000) (hS : ¬ S C) {bc bt bp T o : Nat} (hx : Boxes w bc bt C T o)
    {P : Option Addr} {n p : Nat} (hT : w.cell? ⟨T, o + 28, none⟩ = some (.slice P n p)) {x0 : Value} (hp : w.heap[bp]? = some (.cells #[x0] 3 (0, 0))) (h3 : bp ≠ C) :
    Calls Try.prog 70 #[.pointer (some ⟨bc, 0, none⟩), .pointer (some ⟨bt, 0, none⟩), .pointer (some ⟨bp, 0, none⟩)] w fun e w' => e = .returned (.tuple #[]) ∧ w'.heap[C]? = some (rdObj A B.length c (rtake B (at_, sh) 1).2.1 (rtake B (at_, sh) 1).2.2) ∧
      w'.heap[bp]? = some (.cells #[.int .i64 (beval (rtake B (at_, sh) 1).1)] 3 (0, 0)) ∧ Mod (fun b => b = C ∨ b = bp) w w' := by
  obtain ⟨m, hm⟩ : ∃ m, m = beval (rtake B (at_, sh) 1).1 := ⟨_, rfl⟩
  rw [← hm]
  obtain ⟨R, hR⟩ : ∃ R : World → Prop, R = fun w' => w'.heap[C]? = some (rdObj A B.length c (rtake B (at_, sh) 1).2.1 (rtake B (at_, sh) 1).2.2) ∧ w'.heap[bp]? = some (.cells #[.int .i64 m] 3 (0, 0)) ∧ Mod (fun b => b = C ∨ b = bp) w w' := ⟨_, rfl⟩
  have hd : ∀ W, W = w.drew → Calls Try.prog 68 #[.pointer (some ⟨C, 0, none⟩), .int .i64 n] W fun e w' => e = .returned (.int .i64 m) ∧ w'.cell? ⟨bp, 0, none⟩ = some x0 ∧ w'.frozen? ⟨bp, 0, none⟩ = false ∧ R (w'.setCell ⟨bp, 0, none⟩ (.int .i64 m)) := by
    intro W hW
    subst hW
    have hcr := count_rd (w := w.drew) B hb (hrow.keeps (Mod.keeps (Mod.drew (Mod.refl No w)) (fun _ _ _ f => f))) hat hc hB hS n
    rw [← hm] at hcr
    refine hcr.mono fun e w' ⟨he, a1, a2⟩ => ?_
    have hp' : w'.heap[bp]? = some (.cells #[x0] 3 (0, 0)) := a2.obj (w := w.drew) hp h3
    rw [hR]
    refine ⟨he, (blk_cell hp' 0).trans rfl, blk_free hp' 0, ?_, ?_, ?_⟩
    · rw [heap_setCell_ne _ _ (fun e => h3 e.symm)]
      exact a1
    · rw [heap_setCell_row hp']; simp
    · exact Mod.setCell ((Mod.refl _ w).drew.trans (a2.mono (fun i hi => .inl hi))) (.inr (.inr rfl)) _
  have c0 := blk_cell hx.c 0
  have c1 := blk_cell hx.t 0
  simp at c0 c1
  suffices hs : Calls Try.prog 70 #[.pointer (some ⟨bc, 0, none⟩), .pointer (some ⟨bt, 0, none⟩), .pointer (some ⟨bp, 0, none⟩)] w fun e w' => e = .returned (.tuple #[]) ∧ R w' by
    rw [hR] at hs; exact hs
  have HD := Lib.hid hd
  clear hb hrow hat hc hB hS hx hp h3 hd hR hm
  go_enter Try.func70, Try.ntmps70
  go_wp2_with fail
  go_region_law (first | (go_simp; go_at_call 68; refine (HD.out _ rfl).mono ?_; rintro e w1 ⟨rfl, d1, f1, hr⟩; have HW := Lib.hid hr; clear hr))
  all_goals
    go_wp2
    first | go_end0 | (simp only [Exit.inBlock, Exit.then]; refine bodyPost_ret (results_none rfl _ _ _) rfl ?_) | refine bodyPost_ret (results_none rfl _ _ _) rfl ?_
    exact ⟨rfl, HW.out⟩

end Go.Proofs.Ytcnemhhbihhcfaa
