/-
  CfgN, CfgO, CfgP, CfgJ, CfgK, CfgR, CfgS, CfgU, RdA, RdP, RdB in one text (pack.py).
-/
import Derived.Test.YtpkieilmlnlpkaaR1
import Derived.Laws.Rows
import Derived.Lib.BufferRead
namespace Go.Proofs.Ytpkieilmlnlpkaa

section
attribute [local go_sem] stPair gtPair gtK8 gtM6
attribute [local go_sem high] neqPair eqK8 eqM6
open Go.RowKit
set_option linter.unusedVariables false
/-- A name's bytes behind its length. -/
def nameB' (l : List UInt8) : List UInt8 := be 1 (min l.length 255) ++ l.take 255
set_option maxRecDepth 100000 in
theorem ten_key_rd {S : Nat → Prop} {w : World} {C : Nat} {A : Option Addr} {c at_ : Nat} {sh : Bool} (B : List UInt8) (hb : w.heap[C]? = some (rdObj A B.length c at_ sh)) (hrow : RowAt S w A (bcells B)) (hat : at_ ≤ B.length) (hc : B.length ≤ c) (hB : B.length ≤ 100000000) (hS : ¬ S C) {bc bt T o : Nat} (hx : Boxes w bc bt C T o)
    {cs : List Value} {t : TypeId} (hT : w.heap[T]? = some (.cells cs.toArray t (0, 0))) (ho : o + 2 + 8 ≤ cs.length) (h1 : T ≠ C) :
    Calls Try.prog 60 #[.pointer (some ⟨bc, 0, none⟩), .pointer (some ⟨bt, 0, none⟩)] w fun e w' => e = .returned (.tuple #[]) ∧ w'.heap[C]? = some (rdObj A B.length c (rtake B (at_, sh) 8).2.1 (rtake B (at_, sh) 8).2.2) ∧
      w'.heap[T]? = some (.cells (splice cs (o + 2) (bcells (rtake B (at_, sh) 8).1)).toArray t (0, 0)) ∧ Mod (fun b => b = C ∨ b = T) w w' := by
  obtain ⟨R, hR⟩ : ∃ R : World → Prop, R = fun w' => w'.heap[C]? = some (rdObj A B.length c (rtake B (at_, sh) 8).2.1 (rtake B (at_, sh) 8).2.2) ∧
      w'.heap[T]? = some (.cells (splice cs (o + 2) (bcells (rtake B (at_, sh) 8).1)).toArray t (0, 0)) ∧ Mod (fun b => b = C ∨ b = T) w w' := ⟨_, rfl⟩
  have hd : ∀ W, W = w.drew → Calls Try.prog 61 #[.pointer (some ⟨C, 0, none⟩), .slice (some ⟨T, o + 2, none⟩) 8 8] W fun e w' => e = .returned (.tuple #[]) ∧ R w' := by
    intro W hW
    subst hW
    rw [hR]
    exact (bytes_rd (w := w.drew) B hb (hrow.keeps (Mod.keeps (Mod.drew (Mod.refl No w)) (fun _ _ _ f => f))) hat hc hB 8 (by decide) hS hT ho h1).mono fun e w' ⟨e1, e2, e3, e4⟩ => ⟨e1, e2, e3, (Mod.refl _ w).drew.trans e4⟩
  have c0 := blk_cell hx.c 0
  have c1 := blk_cell hx.t 0
  simp at c0 c1
  suffices hs : Calls Try.prog 60 #[.pointer (some ⟨bc, 0, none⟩), .pointer (some ⟨bt, 0, none⟩)] w fun e w' => e = .returned (.tuple #[]) ∧ R w' by
    rw [hR] at hs; exact hs
  have HD := Lib.hid hd
  clear hb hrow hat hc hB hS hx hT ho hd hR
  go_enter Try.func60, Try.ntmps60
  go_wp2_with fail
  go_region_law (first | (go_simp; go_at_call 61; refine (HD.out _ rfl).mono ?_; rintro e w1 ⟨rfl, hr⟩; have HW := Lib.hid hr; clear hr))
  all_goals
    go_wp2
    first | go_end0 | (simp only [Exit.inBlock, Exit.then]; refine bodyPost_ret (results_none rfl _ _ _) rfl ?_) | refine bodyPost_ret (results_none rfl _ _ _) rfl ?_
    exact ⟨rfl, HW.out⟩
set_option maxRecDepth 100000 in
theorem ten_vmac_rd {S : Nat → Prop} {w : World} {C : Nat} {A : Option Addr} {c at_ : Nat} {sh : Bool} (B : List UInt8) (hb : w.heap[C]? = some (rdObj A B.length c at_ sh)) (hrow : RowAt S w A (bcells B)) (hat : at_ ≤ B.length) (hc : B.length ≤ c) (hB : B.length ≤ 100000000) (hS : ¬ S C) {bc bt T o : Nat} (hx : Boxes w bc bt C T o)
    {cs : List Value} {t : TypeId} (hT : w.heap[T]? = some (.cells cs.toArray t (0, 0))) (ho : o + 11 + 6 ≤ cs.length) (h1 : T ≠ C) :
    Calls Try.prog 63 #[.pointer (some ⟨bc, 0, none⟩), .pointer (some ⟨bt, 0, none⟩)] w fun e w' => e = .returned (.tuple #[]) ∧ w'.heap[C]? = some (rdObj A B.length c (rtake B (at_, sh) 6).2.1 (rtake B (at_, sh) 6).2.2) ∧
      w'.heap[T]? = some (.cells (splice cs (o + 11) (bcells (rtake B (at_, sh) 6).1)).toArray t (0, 0)) ∧ Mod (fun b => b = C ∨ b = T) w w' := by
  obtain ⟨R, hR⟩ : ∃ R : World → Prop, R = fun w' => w'.heap[C]? = some (rdObj A B.length c (rtake B (at_, sh) 6).2.1 (rtake B (at_, sh) 6).2.2) ∧
      w'.heap[T]? = some (.cells (splice cs (o + 11) (bcells (rtake B (at_, sh) 6).1)).toArray t (0, 0)) ∧ Mod (fun b => b = C ∨ b = T) w w' := ⟨_, rfl⟩
  have hd : ∀ W, W = w.drew → Calls Try.prog 61 #[.pointer (some ⟨C, 0, none⟩), .slice (some ⟨T, o + 11, none⟩) 6 6] W fun e w' => e = .returned (.tuple #[]) ∧ R w' := by
    intro W hW
    subst hW
    rw [hR]
    exact (bytes_rd (w := w.drew) B hb (hrow.keeps (Mod.keeps (Mod.drew (Mod.refl No w)) (fun _ _ _ f => f))) hat hc hB 6 (by decide) hS hT ho h1).mono fun e w' ⟨e1, e2, e3, e4⟩ => ⟨e1, e2, e3, (Mod.refl _ w).drew.trans e4⟩
  have c0 := blk_cell hx.c 0
  have c1 := blk_cell hx.t 0
  simp at c0 c1
  suffices hs : Calls Try.prog 63 #[.pointer (some ⟨bc, 0, none⟩), .pointer (some ⟨bt, 0, none⟩)] w fun e w' => e = .returned (.tuple #[]) ∧ R w' by
    rw [hR] at hs; exact hs
  have HD := Lib.hid hd
  clear hb hrow hat hc hB hS hx hT ho hd hR
  go_enter Try.func63, Try.ntmps63
  go_wp2_with fail
  go_region_law (first | (go_simp; go_at_call 61; refine (HD.out _ rfl).mono ?_; rintro e w1 ⟨rfl, hr⟩; have HW := Lib.hid hr; clear hr))
  all_goals
    go_wp2
    first | go_end0 | (simp only [Exit.inBlock, Exit.then]; refine bodyPost_ret (results_none rfl _ _ _) rfl ?_) | refine bodyPost_ret (results_none rfl _ _ _) rfl ?_
    exact ⟨rfl, HW.out⟩
set_option maxRecDepth 100000 in
theorem ten_host_rd {S : Nat → Prop} {w : World} {C : Nat} {A : Option Addr} {c at_ : Nat} {sh : Bool} (B : List UInt8) (hb : w.heap[C]? = some (rdObj A B.length c at_ sh)) (hrow : RowAt S w A (bcells B)) (hat : at_ ≤ B.length) (hc : B.length ≤ c) (hB : B.length ≤ 100000000) (hS : ¬ S C) {bc bt T o : Nat} (hx : Boxes w bc bt C T o)
    {cs : List Value} {t : TypeId} (hT : w.heap[T]? = some (.cells cs.toArray t (0, 0))) (ho : o + 17 + 6 ≤ cs.length) (h1 : T ≠ C) :
    Calls Try.prog 64 #[.pointer (some ⟨bc, 0, none⟩), .pointer (some ⟨bt, 0, none⟩)] w fun e w' => e = .returned (.tuple #[]) ∧ w'.heap[C]? = some (rdObj A B.length c (rtake B (at_, sh) 6).2.1 (rtake B (at_, sh) 6).2.2) ∧
      w'.heap[T]? = some (.cells (splice cs (o + 17) (bcells (rtake B (at_, sh) 6).1)).toArray t (0, 0)) ∧ Mod (fun b => b = C ∨ b = T) w w' := by
  obtain ⟨R, hR⟩ : ∃ R : World → Prop, R = fun w' => w'.heap[C]? = some (rdObj A B.length c (rtake B (at_, sh) 6).2.1 (rtake B (at_, sh) 6).2.2) ∧
      w'.heap[T]? = some (.cells (splice cs (o + 17) (bcells (rtake B (at_, sh) 6).1)).toArray t (0, 0)) ∧ Mod (fun b => b = C ∨ b = T) w w' := ⟨_, rfl⟩
  have hd : ∀ W, W = w.drew → Calls Try.prog 61 #[.pointer (some ⟨C, 0, none⟩), .slice (some ⟨T, o + 17, none⟩) 6 6] W fun e w' => e = .returned (.tuple #[]) ∧ R w' := by
    intro W hW
    subst hW
    rw [hR]
    exact (bytes_rd (w := w.drew) B hb (hrow.keeps (Mod.keeps (Mod.drew (Mod.refl No w)) (fun _ _ _ f => f))) hat hc hB 6 (by decide) hS hT ho h1).mono fun e w' ⟨e1, e2, e3, e4⟩ => ⟨e1, e2, e3, (Mod.refl _ w).drew.trans e4⟩
  have c0 := blk_cell hx.c 0
  have c1 := blk_cell hx.t 0
  simp at c0 c1
  suffices hs : Calls Try.prog 64 #[.pointer (some ⟨bc, 0, none⟩), .pointer (some ⟨bt, 0, none⟩)] w fun e w' => e = .returned (.tuple #[]) ∧ R w' by
    rw [hR] at hs; exact hs
  have HD := Lib.hid hd
  clear hb hrow hat hc hB hS hx hT ho hd hR
  go_enter Try.func64, Try.ntmps64
  go_wp2_with fail
  go_region_law (first | (go_simp; go_at_call 61; refine (HD.out _ rfl).mono ?_; rintro e w1 ⟨rfl, hr⟩; have HW := Lib.hid hr; clear hr))
  all_goals
    go_wp2
    first | go_end0 | (simp only [Exit.inBlock, Exit.then]; refine bodyPost_ret (results_none rfl _ _ _) rfl ?_) | refine bodyPost_ret (results_none rfl _ _ _) rfl ?_
    exact ⟨rfl, HW.out⟩
set_option maxRecDepth 100000 in
theorem ten_name_rd {S : Nat → Prop} {w : World} {C : Nat} {A : Option Addr} {c at_ : Nat} {sh : Bool} (B : List UInt8) (hb : w.heap[C]? = some (rdObj A B.length c at_ sh)) (hrow : RowAt S w A (bcells B)) (hat : at_ ≤ B.length) (hc : B.length ≤ c) (hB : B.length ≤ 100000000) (hS : ¬ S C) {bc bt T o : Nat} (hx : Boxes w bc bt C T o)
    (l0 : List UInt8) (hl : l0.length ≤ 100000000) {cs : Array Value} {t : TypeId} (hT : w.heap[T]? = some (.cells cs t (0, 0))) (ho : cs[o]? = some (.string (str l0))) (h1 : T ≠ C) :
    Calls Try.prog 58 #[.pointer (some ⟨bc, 0, none⟩), .pointer (some ⟨bt, 0, none⟩)] w fun e w' => e = .returned (.tuple #[]) ∧ w'.heap[C]? = some (rdObj A B.length c (rname B (at_, sh)).2.1 (rname B (at_, sh)).2.2) ∧
      w'.heap[T]? = some (.cells (cs.setIfInBounds o (.string (str (rname B (at_, sh)).1))) t (0, 0)) ∧ Mod (fun b => b = C ∨ b = T) w w' := by
  obtain ⟨R, hR⟩ : ∃ R : World → Prop, R = fun w' => w'.heap[C]? = some (rdObj A B.length c (rname B (at_, sh)).2.1 (rname B (at_, sh)).2.2) ∧
      w'.heap[T]? = some (.cells (cs.setIfInBounds o (.string (str (rname B (at_, sh)).1))) t (0, 0)) ∧ Mod (fun b => b = C ∨ b = T) w w' := ⟨_, rfl⟩
  have hd : ∀ W, W = w.drew → Calls Try.prog 48 #[.pointer (some ⟨C, 0, none⟩), .pointer (some ⟨T, o, none⟩)] W fun e w' => e = .returned (.tuple #[]) ∧ R w' := by
    intro W hW
    subst hW
    rw [hR]
    exact (name_rd (w := w.drew) B hb (hrow.keeps (Mod.keeps (Mod.drew (Mod.refl No w)) (fun _ _ _ f => f))) hat hc hB hS l0 hl (T := T) (o := o) hT ho h1).mono fun e w' ⟨e1, e2, e3, e4⟩ => ⟨e1, e2, e3, (Mod.refl _ w).drew.trans e4⟩
  have c0 := blk_cell hx.c 0
  have c1 := blk_cell hx.t 0
  simp at c0 c1
  suffices hs : Calls Try.prog 58 #[.pointer (some ⟨bc, 0, none⟩), .pointer (some ⟨bt, 0, none⟩)] w fun e w' => e = .returned (.tuple #[]) ∧ R w' by
    rw [hR] at hs; exact hs
  have HD := Lib.hid hd
  clear hb hrow hat hc hB hS hx hl hT ho hd hR
  go_enter Try.func58, Try.ntmps58
  go_wp2_with fail
  go_region_law (first | (go_simp; go_at_call 48; refine (HD.out _ rfl).mono ?_; rintro e w1 ⟨rfl, hr⟩; have HW := Lib.hid hr; clear hr))
  all_goals
    go_wp2
    first | go_end0 | (simp only [Exit.inBlock, Exit.then]; refine bodyPost_ret (results_none rfl _ _ _) rfl ?_) | refine bodyPost_ret (results_none rfl _ _ _) rfl ?_
    exact ⟨rfl, HW.out⟩
end

section
attribute [local go_sem] stPair gtPair gtK8 gtM6
attribute [local go_sem high] neqPair eqK8 eqM6
open Go.RowKit
set_option linter.unusedVariables false
set_option maxRecDepth 100000 in
theorem ten_npool_rd {S : Nat → Prop} {w : World} {C : Nat} {A : Option Addr} {c at_ : Nat} {sh : Bool} (B : List UInt8) (hb : w.heap[C]? = some (rdObj A B.length c at_ sh)) (hrow : RowAt S w A (bcells B)) (hat : at_ ≤ B.length) (hc : B.length ≤ c) (hB : B.length ≤ 100000000) (hS : ¬ S C) {bc bt bp T o : Nat} (hx : Boxes w bc bt C T o)
    {P : Option Addr} {n p : Nat} (hT : w.cell? ⟨T, o + 23, none⟩ = some (.slice P n p)) {x0 : Value} (hp : w.heap[bp]? = some (.cells #[x0] 3 (0, 0))) (h3 : bp ≠ C) :
    Calls Try.prog 74 #[.pointer (some ⟨bc, 0, none⟩), .pointer (some ⟨bt, 0, none⟩), .pointer (some ⟨bp, 0, none⟩)] w fun e w' => e = .returned (.tuple #[]) ∧ w'.heap[C]? = some (rdObj A B.length c (rtake B (at_, sh) 1).2.1 (rtake B (at_, sh) 1).2.2) ∧
      w'.heap[bp]? = some (.cells #[.int .i64 (beval (rtake B (at_, sh) 1).1)] 3 (0, 0)) ∧ Mod (fun b => b = C ∨ b = bp) w w' := by
  obtain ⟨m, hm⟩ : ∃ m, m = beval (rtake B (at_, sh) 1).1 := ⟨_, rfl⟩
  rw [← hm]
  obtain ⟨R, hR⟩ : ∃ R : World → Prop, R = fun w' => w'.heap[C]? = some (rdObj A B.length c (rtake B (at_, sh) 1).2.1 (rtake B (at_, sh) 1).2.2) ∧ w'.heap[bp]? = some (.cells #[.int .i64 m] 3 (0, 0)) ∧ Mod (fun b => b = C ∨ b = bp) w w' := ⟨_, rfl⟩
  have hd : ∀ W, W = w.drew → Calls Try.prog 75 #[.pointer (some ⟨C, 0, none⟩), .int .i64 n] W fun e w' => e = .returned (.int .i64 m) ∧ w'.cell? ⟨bp, 0, none⟩ = some x0 ∧ w'.frozen? ⟨bp, 0, none⟩ = false ∧ R (w'.setCell ⟨bp, 0, none⟩ (.int .i64 m)) := by
    intro W hW
    subst hW
    have hcr := count_rd (w := w.drew) B hb (hrow.keeps (Mod.keeps (Mod.drew (Mod.refl No w)) (fun _ _ _ f => f))) hat hc hB hS n
    rw [← hm] at hcr
    refine hcr.mono fun e w' ⟨he, a1, a2⟩ => ?_
    have hp' : w'.heap[bp]? = some (.cells #[x0] 3 (0, 0)) := a2.obj (w := w.drew) hp h3
    rw [hR]
    refine ⟨he, (blk_cell hp' 0).trans rfl, blk_free hp' 0, ?_, ?_, ?_⟩
    · rw [heap_setCell_ne _ _ (fun e => h3 e.symm)]
      exact a1
    · rw [heap_setCell_row hp']; simp
    · exact Mod.setCell ((Mod.refl _ w).drew.trans (a2.mono (fun i hi => .inl hi))) (.inr (.inr rfl)) _
  have c0 := blk_cell hx.c 0
  have c1 := blk_cell hx.t 0
  simp at c0 c1
  suffices hs : Calls Try.prog 74 #[.pointer (some ⟨bc, 0, none⟩), .pointer (some ⟨bt, 0, none⟩), .pointer (some ⟨bp, 0, none⟩)] w fun e w' => e = .returned (.tuple #[]) ∧ R w' by
    rw [hR] at hs; exact hs
  have HD := Lib.hid hd
  clear hb hrow hat hc hB hS hx hp h3 hd hR hm
  go_enter Try.func74, Try.ntmps74
  go_wp2_with fail
  go_region_law (first | (go_simp; go_at_call 75; refine (HD.out _ rfl).mono ?_; rintro e w1 ⟨rfl, d1, f1, hr⟩; have HW := Lib.hid hr; clear hr))
  all_goals
    go_wp2
    first | go_end0 | (simp only [Exit.inBlock, Exit.then]; refine bodyPost_ret (results_none rfl _ _ _) rfl ?_) | refine bodyPost_ret (results_none rfl _ _ _) rfl ?_
    exact ⟨rfl, HW.out⟩
set_option maxRecDepth 100000 in
theorem ten_nstatics_rd {S : Nat → Prop} {w : World} {C : Nat} {A : Option Addr} {c at_ : Nat} {sh : Bool} (B : List UInt8) (hb : w.heap[C]? = some (rdObj A B.length c at_ sh)) (hrow : RowAt S w A (bcells B)) (hat : at_ ≤ B.length) (hc : B.length ≤ c) (hB : B.length ≤ 100000000) (hS : ¬ S C) {bc bt bp T o : Nat} (hx : Boxes w bc bt C T o)
    {P : Option Addr} {n p : Nat} (hT : w.cell? ⟨T, o + 27, none⟩ = some (.slice P n p)) {x0 : Value} (hp : w.heap[bp]? = some (.cells #[x0] 3 (0, 0))) (h3 : bp ≠ C) :
    Calls Try.prog 76 #[.pointer (some ⟨bc, 0, none⟩), .pointer (some ⟨bt, 0, none⟩), .pointer (some ⟨bp, 0, none⟩)] w fun e w' => e = .returned (.tuple #[]) ∧ w'.heap[C]? = some (rdObj A B.length c (rtake B (at_, sh) 1).2.1 (rtake B (at_, sh) 1).2.2) ∧
      w'.heap[bp]? = some (.cells #[.int .i64 (beval (rtake B (at_, sh) 1).1)] 3 (0, 0)) ∧ Mod (fun b => b = C ∨ b = bp) w w' := by
  obtain ⟨m, hm⟩ : ∃ m, m = beval (rtake B (at_, sh) 1).1 := ⟨_, rfl⟩
  rw [← hm]
  obtain ⟨R, hR⟩ : ∃ R : World → Prop, R = fun w' => w'.heap[C]? = some (rdObj A B.length c (rtake B (at_, sh) 1).2.1 (rtake B (at_, sh) 1).2.2) ∧ w'.heap[bp]? = some (.cells #[.int .i64 m] 3 (0, 0)) ∧ Mod (fun b => b = C ∨ b = bp) w w' := ⟨_, rfl⟩
  have hd : ∀ W, W = w.drew → Calls Try.prog 75 #[.pointer (some ⟨C, 0, none⟩), .int .i64 n] W fun e w' => e = .returned (.int .i64 m) ∧ w'.cell? ⟨bp, 0, none⟩ = some x0 ∧ w'.frozen? ⟨bp, 0, none⟩ = false ∧ R (w'.setCell ⟨bp, 0, none⟩ (.int .i64 m)) := by
    intro W hW
    subst hW
    have hcr := count_rd (w := w.drew) B hb (hrow.keeps (Mod.keeps (Mod.drew (Mod.refl No w)) (fun _ _ _ f => f))) hat hc hB hS n
    rw [← hm] at hcr
    refine hcr.mono fun e w' ⟨he, a1, a2⟩ => ?_
    have hp' : w'.heap[bp]? = some (.cells #[x0] 3 (0, 0)) := a2.obj (w := w.drew) hp h3
    rw [hR]
    refine ⟨he, (blk_cell hp' 0).trans rfl, blk_free hp' 0, ?_, ?_, ?_⟩
    · rw [heap_setCell_ne _ _ (fun e => h3 e.symm)]
      exact a1
    · rw [heap_setCell_row hp']; simp
    · exact Mod.setCell ((Mod.refl _ w).drew.trans (a2.mono (fun i hi => .inl hi))) (.inr (.inr rfl)) _
  have c0 := blk_cell hx.c 0
  have c1 := blk_cell hx.t 0
  simp at c0 c1
  suffices hs : Calls Try.prog 76 #[.pointer (some ⟨bc, 0, none⟩), .pointer (some ⟨bt, 0, none⟩), .pointer (some ⟨bp, 0, none⟩)] w fun e w' => e = .returned (.tuple #[]) ∧ R w' by
    rw [hR] at hs; exact hs
  have HD := Lib.hid hd
  clear hb hrow hat hc hB hS hx hp h3 hd hR hm
  go_enter Try.func76, Try.ntmps76
  go_wp2_with fail
  go_region_law (first | (go_simp; go_at_call 75; refine (HD.out _ rfl).mono ?_; rintro e w1 ⟨rfl, d1, f1, hr⟩; have HW := Lib.hid hr; clear hr))
  all_goals
    go_wp2
    first | go_end0 | (simp only [Exit.inBlock, Exit.then]; refine bodyPost_ret (results_none rfl _ _ _) rfl ?_) | refine bodyPost_ret (results_none rfl _ _ _) rfl ?_
    exact ⟨rfl, HW.out⟩
set_option maxRecDepth 100000 in
theorem ten_ntwices_rd {S : Nat → Prop} {w : World} {C : Nat} {A : Option Addr} {c at_ : Nat} {sh : Bool} (B : List UInt8) (hb : w.heap[C]? = some (rdObj A B.length c at_ sh)) (hrow : RowAt S w A (bcells B)) (hat : at_ ≤ B.length) (hc : B.length ≤ c) (hB : B.length ≤ 100000000) (hS : ¬ S C) {bc bt bp T o : Nat} (hx : Boxes w bc bt C T o)
    {P : Option Addr} {n p : Nat} (hT : w.cell? ⟨T, o + 28, none⟩ = some (.slice P n p)) {x0 : Value} (hp : w.heap[bp]? = some (.cells #[x0] 3 (0, 0))) (h3 : bp ≠ C) :
    Calls Try.prog 77 #[.pointer (some ⟨bc, 0, none⟩), .pointer (some ⟨bt, 0, none⟩), .pointer (some ⟨bp, 0, none⟩)] w fun e w' => e = .returned (.tuple #[]) ∧ w'.heap[C]? = some (rdObj A B.length c (rtake B (at_, sh) 1).2.1 (rtake B (at_, sh) 1).2.2) ∧
      w'.heap[bp]? = some (.cells #[.int .i64 (beval (rtake B (at_, sh) 1).1)] 3 (0, 0)) ∧ Mod (fun b => b = C ∨ b = bp) w w' := by
  obtain ⟨m, hm⟩ : ∃ m, m = beval (rtake B (at_, sh) 1).1 := ⟨_, rfl⟩
  rw [← hm]
  obtain ⟨R, hR⟩ : ∃ R : World → Prop, R = fun w' => w'.heap[C]? = some (rdObj A B.length c (rtake B (at_, sh) 1).2.1 (rtake B (at_, sh) 1).2.2) ∧ w'.heap[bp]? = some (.cells #[.int .i64 m] 3 (0, 0)) ∧ Mod (fun b => b = C ∨ b = bp) w w' := ⟨_, rfl⟩
  have hd : ∀ W, W = w.drew → Calls Try.prog 75 #[.pointer (some ⟨C, 0, none⟩), .int .i64 n] W fun e w' => e = .returned (.int .i64 m) ∧ w'.cell? ⟨bp, 0, none⟩ = some x0 ∧ w'.frozen? ⟨bp, 0, none⟩ = false ∧ R (w'.setCell ⟨bp, 0, none⟩ (.int .i64 m)) := by
    intro W hW
    subst hW
    have hcr := count_rd (w := w.drew) B hb (hrow.keeps (Mod.keeps (Mod.drew (Mod.refl No w)) (fun _ _ _ f => f))) hat hc hB hS n
    rw [← hm] at hcr
    refine hcr.mono fun e w' ⟨he, a1, a2⟩ => ?_
    have hp' : w'.heap[bp]? = some (.cells #[x0] 3 (0, 0)) := a2.obj (w := w.drew) hp h3
    rw [hR]
    refine ⟨he, (blk_cell hp' 0).trans rfl, blk_free hp' 0, ?_, ?_, ?_⟩
    · rw [heap_setCell_ne _ _ (fun e => h3 e.symm)]
      exact a1
    · rw [heap_setCell_row hp']; simp
    · exact Mod.setCell ((Mod.refl _ w).drew.trans (a2.mono (fun i hi => .inl hi))) (.inr (.inr rfl)) _
  have c0 := blk_cell hx.c 0
  have c1 := blk_cell hx.t 0
  simp at c0 c1
  suffices hs : Calls Try.prog 77 #[.pointer (some ⟨bc, 0, none⟩), .pointer (some ⟨bt, 0, none⟩), .pointer (some ⟨bp, 0, none⟩)] w fun e w' => e = .returned (.tuple #[]) ∧ R w' by
    rw [hR] at hs; exact hs
  have HD := Lib.hid hd
  clear hb hrow hat hc hB hS hx hp h3 hd hR hm
  go_enter Try.func77, Try.ntmps77
  go_wp2_with fail
  go_region_law (first | (go_simp; go_at_call 75; refine (HD.out _ rfl).mono ?_; rintro e w1 ⟨rfl, d1, f1, hr⟩; have HW := Lib.hid hr; clear hr))
  all_goals
    go_wp2
    first | go_end0 | (simp only [Exit.inBlock, Exit.then]; refine bodyPost_ret (results_none rfl _ _ _) rfl ?_) | refine bodyPost_ret (results_none rfl _ _ _) rfl ?_
    exact ⟨rfl, HW.out⟩
end

section
attribute [local go_sem] stPair gtPair gtK8 gtM6
attribute [local go_sem high] neqPair eqK8 eqM6
open Go.RowKit
set_option linter.unusedVariables false
def nums4 (l : List Nat) : List UInt8 := l.flatMap (be 4)
def prs8 (l : List Pr) : List UInt8 := l.flatMap fun p => be 4 p.a ++ be 4 p.b
end

section
attribute [local go_sem] stPair gtPair gtK8 gtM6
attribute [local go_sem high] neqPair eqK8 eqM6
open Go.RowKit
set_option linter.unusedVariables false
/-- A change's cells. -/
def chgCells (put : Bool) (name : List UInt8) (t : Ten) (vp vs vt : Value) : Array Value := #[.bool put, .string (str name)] ++ t.cells vp vs vt
def zChg : Array Value := chgCells false [] .zero (.slice none 0 0) (.slice none 0 0) (.slice none 0 0)
theorem results_cell_tmp {P : Program} {fn : Func} {p q : Tmp} {ty : TypeId} (h : fn.results = #[.cell p ty, .tmp q]) (tmps : Array Value) (w : World) (g : Nat) (t : TypeId) (cs : Array Value) (fr : Nat × Nat) (d : TypeDesc)
    (hp : tmps.getD p undef = .pointer (some ⟨g, 0, none⟩)) (hg : w.heap[g]? = some (.cells cs t fr))
    (hu : P.underlying ty = some d) (hd : (match d with | .struct _ | .array _ _ => true | _ => false) = true) (hi : (P.info? ty).map (·.size) = some cs.size) :
    (results fn tmps).run P w = .ok (.tuple #[.agg cs, tmps.getD q undef]) w := by
  have hp' : tmps[p]?.getD undef = .pointer (some ⟨g, 0, none⟩) := by simpa using hp
  simp [results, h, hp', asAddr, run_loadVar_row w g t ty cs fr d hg hu hd hi]
theorem chgSize : (Try.prog.info? 35).map (·.size) = some 35 := by kernel_rfl
set_option maxRecDepth 100000 in
theorem alloc_chg : ∀ W, (Instr.alloc 35 true (.tuple #[])).run Try.prog W = .ok (.pointer (some ⟨W.heap.size, 0, none⟩)) (W.alloc (.cells zChg 35)) := fun W => by kernel_rfl
set_option maxRecDepth 100000 in
theorem build_chg : ∀ W, (Instr.build 35 #[]).run Try.prog W = .ok (.agg zChg) W := fun W => by kernel_rfl
set_option maxRecDepth 100000 in
theorem build_run (ρ : Operand → Value) (W : World) {dst : Option Tmp} {ty : TypeId} {pos : String} {after : Array Edge} {g : Option (Nat × Bool)} : (execOp ρ { dst := dst, op := .build 35 #[], type := ty, pos := pos, after := after, guard := g }).run Try.prog W = .ok (.value (.agg zChg)) W := by
  show ((do pure (Next.value (← Instr.build 35 (#[].map fun (i, x) => (i, ρ x)))) : Sem Next)).run Try.prog W = _
  simp only [Array.map_empty, Sem.run_bind, build_chg, Result.andThen_ok, Sem.run_pure]
set_option maxRecDepth 100000 in
theorem build1_run (b : Bool) (ρ : Operand → Value) (W : World) {x : Operand} (hx : ρ x = .bool b) {dst : Option Tmp} {ty : TypeId} {pos : String} {after : Array Edge} {g : Option (Nat × Bool)} : (execOp ρ { dst := dst, op := .build 35 #[(0, x)], type := ty, pos := pos, after := after, guard := g }).run Try.prog W = .ok (.value (.agg (chgCells b [] .zero (.slice none 0 0) (.slice none 0 0) (.slice none 0 0)))) W := by
  have hb : (Instr.build 35 #[(0, .bool b)]).run Try.prog W = .ok (.agg (chgCells b [] .zero (.slice none 0 0) (.slice none 0 0) (.slice none 0 0))) W := by cases b <;> kernel_rfl
  show ((do pure (Next.value (← Instr.build 35 (#[(0, x)].map fun (i, x) => (i, ρ x)))) : Sem Next)).run Try.prog W = _
  have hm : (#[((0 : Nat), x)].map fun (i, x) => (i, ρ x)) = #[(0, .bool b)] := by simp [hx]
  rw [hm]
  simp only [Sem.run_bind, hb, Result.andThen_ok, Sem.run_pure]
theorem alloc_op (ρ : Operand → Value) (W : World) {dst : Option Tmp} {ty : TypeId} {pos : String} {after : Array Edge} {g : Option (Nat × Bool)} : (execOp ρ { dst := dst, op := .alloc 35, type := ty, pos := pos, after := after, guard := g }).run Try.prog W = .ok (.value (.pointer (some ⟨W.heap.size, 0, none⟩))) (W.alloc (.cells zChg 35)) := by
  show ((do pure (Next.value (← Instr.alloc 35 true (.tuple #[]))) : Sem Next)).run Try.prog W = _
  simp only [Sem.run_bind, alloc_chg, Result.andThen_ok, Sem.run_pure]
theorem store_chg {W : World} {b : Nat} {old CA : Array Value} (h : W.heap[b]? = some (.cells old 35 (0, 0))) (ho : old.size = 35) (hc : CA.size = 35) (h1 : CA.all (·.oneCell') = true) :
    (Instr.storeAt 35 (.pointer (some ⟨b, 0, none⟩)) (.agg CA)).run Try.prog W = .ok () (W.setRow b CA) := by
  simp only [Instr.storeAt, Instr.sureAddr, Sem.run_bind, Sem.run_pure, Result.andThen_ok]
  exact run_storeVar_row W b _ _ old CA h (by rw [chgSize, hc]) (by rw [ho, hc]) h1
theorem load_chg {W : World} {b : Nat} {CA : Array Value} (h : W.heap[b]? = some (.cells CA 35 (0, 0))) (hc : CA.size = 35) :
    (Instr.loadAt 35 (.pointer (some ⟨b, 0, none⟩))).run Try.prog W = .ok (.agg CA) W := by
  simp only [Instr.loadAt, Instr.sureAddr, Sem.run_bind, Sem.run_pure, Result.andThen_ok]
  exact run_loadVar_row W b _ _ CA (0, 0) _ h Try.underlying35 rfl (by rw [chgSize, hc])
section
variable {P : Program} {ops : Array Oper} {Q : Exit → Act → World → Prop}
theorem step_none {o : Oper} {rest : List Oper} {a : Act} {w w' : World} (hw : Region.wanted o (yielded ops a.tmps) = true) (hr : (execOp a.eval o).run P w = .ok .skip w') (h : wpList P ops Q rest (a.put o.dst undef) w') : wpList P ops Q (o :: rest) a w := by
  refine wpList_step fun K hK => ?_
  rw [if_pos hw]
  unfold Oper.wp
  rw [hr]
  exact hK _ _ h
theorem run_store_op {a : Act} {o : Oper} {t : TypeId} {x y : Operand} {pv v : Value} {W W' : World} (ho : o.op = .store t x y) (hx : a.eval x = pv) (hy : a.eval y = v) (rs : (Instr.storeAt t pv v).run P W = .ok () W') : (execOp a.eval o).run P W = .ok .skip W' := by
  simp only [execOp, ho, hx, hy, Sem.run_bind, rs, Result.andThen_ok, Sem.run_pure]
end
theorem load_op {P : Program} {ρ : Operand → Value} {t : TypeId} {x : Operand} {pv v : Value} {W : World} {dst : Option Tmp} {ty : TypeId} {pos : String} {after : Array Edge} {g : Option (Nat × Bool)} (hx : ρ x = pv) (rs : (Instr.loadAt t pv).run P W = .ok v W) : (execOp ρ { dst := dst, op := .load t x, type := ty, pos := pos, after := after, guard := g }).run P W = .ok (.value v) W := by
  show ((do pure (Next.value (← Instr.loadAt t (ρ x)))) : Sem Next).run P W = _
  rw [hx]
  simp only [Sem.run_bind, rs, Result.andThen_ok, Sem.run_pure]
theorem chg_set (xs : List UInt8) : zChg.setIfInBounds 1 (.string (str xs)) = chgCells false xs .zero (.slice none 0 0) (.slice none 0 0) (.slice none 0 0) := by
  simp [chgCells, zChg, Ten.cells]
theorem chg_size (b : Bool) (xs : List UInt8) (t : Ten) (vp vs vt : Value) : (chgCells b xs t vp vs vt).size = 35 := by simp [chgCells, Ten.cells]
theorem zSize : zChg.size = 35 := rfl
theorem zOne : zChg.all (·.oneCell') = true := by decide +kernel
set_option maxRecDepth 100000 in
theorem openChange_nil {w : World} (A : Option Addr) (c : Nat) :
    Calls Try.prog 32 #[.slice A 0 c] w fun e w' => e = .returned (.tuple #[.agg zChg, .int .i64 70]) ∧ Mod No w w' := by
  go_enter Try.func32, Try.ntmps32
  go_upto_region 2 with fail
  refine wp_region_lit ?_
  refine step_val (v := .agg zChg) (want_none rfl) (build_run _ _) ?_
  refine step_none (want_none rfl) (run_store_op (by rfl) (by rfl) (by rfl) (store_chg (at10 w _) rfl zSize zOne)) ?_
  refine step_val (v := .int .i64 70) (want_none rfl) rfl ?_
  refine wpList_nil ?_
  simp only [Act.put, List.setIfInBounds_toArray, List.set_cons_zero, List.set_cons_succ]
  go_wp2
  refine bodyPost_ret (results_cell_tmp rfl _ _ w.heap.size 35 zChg (0, 0) _ rfl (setRow_heap _ _ _ _ _ _ (at10 w _)) Try.underlying35 rfl (by rw [chgSize, zSize])) rfl ?_
  exact ⟨rfl, ((Mod.refl No w).alloc _).trans' (setRow_mod _) (fun i hi hg => by omega)⟩
set_option maxRecDepth 100000 in
theorem openChange_bad {S : Nat → Prop} {w : World} (A : Option Addr) (n c : Nat) (x : UInt8) (r : List UInt8) (hrow : RowAt S w A (bcells (x :: r))) (hn : n = r.length + 1) (hx : 1 < x.toNat) :
    Calls Try.prog 32 #[.slice A n c] w fun e w' => e = .returned (.tuple #[.agg zChg, .int .i64 70]) ∧ Mod No w w' := by
  obtain ⟨b, o, rfl, _, hlt, hc⟩ := hrow.open (by simp [bcells])
  have c0 := hc 0 (.int .u8 (x.toNat : Int)) rfl
  rw [Nat.add_zero] at c0
  have p0 : ((n : Int) == 0) = false := by rw [beq_eq_false_iff_ne]; omega
  have p1 : (0 : Int) < n := by omega
  have p2 : decide ((1 : Int) < (x.toNat : Int)) = true := by rw [decide_eq_true_eq]; omega
  clear hrow hc hn hx
  go_enter Try.func32, Try.ntmps32
  go_upto_region 2 with fail
  refine wp_region_lit ?_
  refine step_val (v := .agg zChg) (want_none rfl) (build_run _ _) ?_
  refine step_none (want_none rfl) (run_store_op (by rfl) (by rfl) (by rfl) (store_chg (at10 w _) rfl zSize zOne)) ?_
  refine step_val (v := .int .i64 70) (want_none rfl) rfl ?_
  refine wpList_nil ?_
  simp only [Act.put, List.setIfInBounds_toArray, List.set_cons_zero, List.set_cons_succ]
  go_wp2
  refine bodyPost_ret (results_cell_tmp rfl _ _ w.heap.size 35 zChg (0, 0) _ rfl (setRow_heap _ _ _ _ _ _ (at10 w _)) Try.underlying35 rfl (by rw [chgSize, zSize])) rfl ?_
  exact ⟨rfl, ((Mod.refl No w).alloc _).trans' (setRow_mod _) (fun i hi hg => by omega)⟩
set_option maxRecDepth 100000 in
theorem openChange_name {S : Nat → Prop} {w : World} (A : Option Addr) (n c : Nat) (r : List UInt8) (hrow : RowAt S w A (bcells (0 :: r))) (hn : n = r.length + 1) (hc : n ≤ c) (hn8 : n ≤ 100000000) :
    Calls Try.prog 32 #[.slice A n c] w fun e w' => e = .returned (if (rname (0 :: r) (1, false)).2 = (n, false) then .tuple #[.agg (chgCells false (rname (0 :: r) (1, false)).1 .zero (.slice none 0 0) (.slice none 0 0) (.slice none 0 0)), .int .i64 0] else .tuple #[.agg zChg, .int .i64 70]) ∧ Mod No w w' := by
  obtain ⟨b, o, rfl, _, hlt, hcl⟩ := hrow.open (by simp [bcells])
  have c0 := hcl 0 (.int .u8 0) rfl
  rw [Nat.add_zero] at c0
  have p0 : ((n : Int) == 0) = false := by rw [beq_eq_false_iff_ne]; omega
  have p1 : (0 : Int) < n := by omega
  have HR := Lib.hid hrow
  have HN := Lib.hid hn
  clear hrow hcl hn
  obtain ⟨B, hB⟩ : ∃ B, B = 0 :: r := ⟨_, rfl⟩
  rw [← hB]
  obtain ⟨xs, hxs⟩ : ∃ xs, xs = (rname B (1, false)).1 := ⟨_, rfl⟩
  obtain ⟨st, hst⟩ : ∃ st, st = (rname B (1, false)).2 := ⟨_, rfl⟩
  rw [← hxs, ← hst]
  have HBX := Lib.hid (And.intro hB (And.intro hxs hst))
  obtain ⟨res, hres⟩ : ∃ res, res = (if st = (n, false) then Value.tuple #[.agg (chgCells false xs .zero (.slice none 0 0) (.slice none 0 0) (.slice none 0 0)), .int .i64 0] else Value.tuple #[.agg zChg, .int .i64 70]) := ⟨_, rfl⟩
  rw [← hres]
  have HRES := Lib.hid hres
  clear hres
  clear hB hxs hst
  go_enter Try.func32, Try.ntmps32
  go_upto_region 4 with fail
  refine wp_region_lit ?_
  obtain ⟨W1, hW1⟩ : ∃ W1 : World, W1 = (w.alloc (.cells zChg 35)).alloc (.cells #[.slice (some ⟨b, o, none⟩) n c, .bool true, .int .i64 1, .bool false] 100) := ⟨_, rfl⟩
  show wpList _ _ _ _ _ ((w.alloc (.cells zChg 35)).alloc (.cells #[.slice (some ⟨b, o, none⟩) n c, .bool true, .int .i64 1, .bool false] 100))
  rw [← hW1]
  have hm1 : Mod No w W1 := by rw [hW1]; exact ((Mod.refl _ _).alloc _).alloc _
  have hs1 : W1.heap.size = w.heap.size + 2 := by rw [hW1]; simp
  have hz1 : W1.heap[w.heap.size]? = some (.cells zChg 35 (0, 0)) := by rw [hW1]; exact at20 w _ _
  have hC1 : W1.heap[w.heap.size + 1]? = some (rdObj (some ⟨b, o, none⟩) n c 1 false) := by rw [hW1]; exact at21 w _ _
  have c1 : W1.cell? ⟨b, o, none⟩ = some (.int .u8 0) := hm1.cell c0 id
  have p2 : ¬ n = 0 := by omega
  clear hW1
  refine step_val (v := .slice (some ⟨b, o, none⟩) n c) (want_none rfl) rfl ?_
  refine step_val (v := .pointer (some ⟨b, o, none⟩)) (w' := W1) (want_none rfl) (by
    show ((do pure (Next.value (← Instr.indexAt 22 (.slice (some ⟨b, o, none⟩) n c) (.int .i64 0)))) : Sem Next).run Try.prog W1 = _
    go_simp) ?_
  refine step_val (v := .int .u8 0) (w' := W1) (want_none rfl) (by
    show ((do pure (Next.value (← Instr.loadAt 5 (.pointer (some ⟨b, o, none⟩))))) : Sem Next).run Try.prog W1 = _
    go_simp) ?_
  refine step_val (v := .bool false) (w' := W1) (want_none rfl) rfl ?_
  simp only [Act.put, List.setIfInBounds_toArray, List.set_cons_zero, List.set_cons_succ]
  refine step_val (v := .agg zChg) (w' := W1) (want_none rfl) (build1_run false _ _ (by rfl)) ?_
  refine step_val (v := .pointer (some ⟨W1.heap.size, 0, none⟩)) (w' := W1.alloc (.cells zChg 35)) (want_none rfl) (alloc_op _ _) ?_
  simp only [Act.put, List.setIfInBounds_toArray, List.set_cons_zero, List.set_cons_succ]
  refine step_none (w' := (W1.alloc (.cells zChg 35)).setRow W1.heap.size zChg) (want_none rfl) (run_store_op (by rfl) (by rfl) (by rfl) (store_chg (at10 W1 _) rfl zSize zOne)) ?_
  refine wpList_nil ?_
  simp only [Act.put]
  obtain ⟨x5, hx5⟩ : ∃ x5, x5 = W1.heap.size := ⟨_, rfl⟩
  obtain ⟨W3, hW3⟩ : ∃ W3 : World, W3 = (W1.alloc (.cells zChg 35)).setRow x5 zChg := ⟨_, rfl⟩
  rw [← hx5, ← hW3]
  have hm3 : Mod No W1 W3 := by rw [hW3]; exact ((Mod.refl No W1).alloc _).trans' (setRow_mod _) (fun i hi hg => by omega)
  have hz3 : W3.heap[x5]? = some (.cells zChg 35 (0, 0)) := by rw [hW3, hx5]; exact setRow_heap _ _ _ _ _ _ (at10 W1 _)
  have d0 : W3.cell? ⟨x5, 0, none⟩ = some (.bool false) := (blk_cell hz3 0).trans rfl
  obtain ⟨hB, hxs, hst⟩ := HBX.out
  have hBn : B.length = n := by rw [hB, List.length_cons, HN.out]
  have hrow3 := (HR.out.mono (S' := fun i => S i ∧ i < w.heap.size) (fun i hi hs => ⟨hs, hi⟩)).keeps ((hm1.trans hm3).keeps (fun _ _ _ f => f))
  rw [← hB] at hrow3
  have hNM := name_rd B (by rw [hBn]; exact hm3.obj hC1 id) hrow3 (by omega) (by omega) (by omega) (fun f => by omega) [] (by simp) (T := x5) (o := 1) hz3 rfl (by omega)
  rw [← hxs, ← hst] at hNM
  have HNM := Lib.hid hNM
  have H3 := Lib.hid (And.intro (hm1.trans hm3) (And.intro (hm3.obj hz1 id) hBn))
  have hx1 : w.heap.size < x5 := by omega
  have hx2 : w.heap.size + 1 < x5 := by omega
  clear hm1 hz1 hC1 c1 hm3 hz3 hB hrow3 hNM hxs hst hW3 hx5 hs1 hBn HR HN c0 p0 p1 HBX p2
  clear W1
  go_upto_region 9 with (first | (go_at_call 48; refine HNM.out.mono ?_; rintro e w4 ⟨rfl, hC4, hX4, hm4⟩; have HE := Lib.hid (ended_ok hC4); have H4 := Lib.hid (And.intro hX4 hm4); clear hC4 hX4 hm4) | fail)
  obtain ⟨eb, heb⟩ : ∃ eb, eb = (!st.2 && decide (st.1 = B.length)) := ⟨_, rfl⟩
  rw [← heb] at HE
  have hif : (st = (n, false)) = (eb = true) := by
    rw [heb, H3.out.2.2]
    obtain ⟨s1, s2⟩ := st
    cases s2 <;> simp
  have hX4 := H4.out.1
  rw [chg_set] at hX4
  have ho1 : (chgCells false xs .zero (.slice none 0 0) (.slice none 0 0) (.slice none 0 0)).all (·.oneCell') = true := by simp [chgCells, Ten.cells, Value.oneCell']
  obtain ⟨CX, hCX⟩ : ∃ CX, CX = chgCells false xs .zero (.slice none 0 0) (.slice none 0 0) (.slice none 0 0) := ⟨_, rfl⟩
  have hCs : CX.size = 35 := by rw [hCX, chg_size]
  rw [← hCX] at hX4 ho1
  have hz4 := H4.out.2.obj H3.out.2.1 (by intro f; rcases f with f | f <;> omega)
  have hmall : Mod No w w4 := H3.out.1.trans' H4.out.2 (fun i hi hg => by rcases hg with h | h <;> omega)
  have HIF := Lib.hid hif
  have HZ := Lib.hid (And.intro hX4 (And.intro hz4 hmall))
  have HCX := Lib.hid (And.intro hCX (And.intro hCs ho1))
  clear hif heb hX4 hz4 hmall hCX hCs ho1
  cases eb
  · go_upto_region 10 with (first | (go_at_call 49; refine HE.out.mono ?_; rintro e w5 ⟨rfl, q5, rfl⟩) | fail)
    refine wp_region_lit ?_
    refine step_val (v := .agg zChg) (want_none rfl) (build_run _ _) ?_
    simp only [Act.put, List.setIfInBounds_toArray, List.set_cons_zero, List.set_cons_succ]
    refine step_none (w' := (w4.drewN q5).setRow w.heap.size zChg) (want_none rfl) (run_store_op (by rfl) (by rfl) (by rfl) (store_chg (old := zChg) (HZ.out.2.1) rfl zSize zOne)) ?_
    refine step_val (v := .int .i64 70) (want_none rfl) rfl ?_
    refine wpList_nil ?_
    simp only [Act.put, List.setIfInBounds_toArray, List.set_cons_zero, List.set_cons_succ]
    go_wp2
    refine bodyPost_ret (results_cell_tmp rfl _ _ w.heap.size 35 zChg (0, 0) _ rfl (setRow_heap _ _ _ _ _ _ HZ.out.2.1) Try.underlying35 rfl (by rw [chgSize, zSize])) rfl ?_
    refine ⟨?_, (HZ.out.2.2.drewN q5).trans' (setRow_mod _) (fun i hi hg => by omega)⟩
    rw [HRES.out, if_neg (by rw [HIF.out]; decide)]
    rfl
  · go_upto_region 11 with (first | (go_at_call 49; refine HE.out.mono ?_; rintro e w5 ⟨rfl, q5, rfl⟩) | fail)
    refine wp_region_lit ?_
    refine step_val (v := .agg CX) (w' := w4.drewN q5) (want_none rfl) (load_op (by rfl) (load_chg HZ.out.1 HCX.out.2.1)) ?_
    simp only [Act.put, List.setIfInBounds_toArray, List.set_cons_zero, List.set_cons_succ]
    refine step_none (w' := (w4.drewN q5).setRow w.heap.size CX) (want_none rfl) (run_store_op (by rfl) (by rfl) (by rfl) (store_chg (old := zChg) (HZ.out.2.1) rfl HCX.out.2.1 HCX.out.2.2)) ?_
    refine step_val (v := .int .i64 0) (want_none rfl) rfl ?_
    refine wpList_nil ?_
    simp only [Act.put, List.setIfInBounds_toArray, List.set_cons_zero, List.set_cons_succ]
    go_wp2
    refine bodyPost_ret (results_cell_tmp rfl _ _ w.heap.size 35 CX (0, 0) _ rfl (setRow_heap _ _ _ _ _ _ HZ.out.2.1) Try.underlying35 rfl (by rw [chgSize, HCX.out.2.1])) rfl ?_
    refine ⟨?_, (HZ.out.2.2.drewN q5).trans' (setRow_mod _) (fun i hi hg => by omega)⟩
    rw [HRES.out, if_pos (Eq.mpr HIF.out trivial), ← HCX.out.1]
    rfl
end

section
attribute [local go_sem] stPair gtPair gtK8 gtM6
attribute [local go_sem high] neqPair eqK8 eqM6
open Go.RowKit
set_option linter.unusedVariables false
theorem conv_row {S : Nat → Prop} {w : World} {A : Option Addr} {l : List UInt8} (c : Nat) (h : RowAt S w A (bcells l)) : (convert 22 9 (.slice A l.length c)).run Try.prog w = .ok (.string (str l)) w := by
  cases A with
  | none =>
    have hl : l = [] := by
      rcases h with h | ⟨b, o, e, _⟩
      · have := congrArg List.length h
        rw [bcells_length] at this
        exact List.eq_nil_of_length_eq_zero (by simpa using this)
      · cases e
    subst hl
    exact Lib.run_convert_nil_bytes w 22 9 5 c Try.underlying22 Try.underlying5 Try.underlying9
  | some ad =>
    refine run_convert_bytes_back w 22 9 5 ad c l Try.underlying22 Try.underlying5 Try.underlying9 (fun j hj => ?_)
    obtain ⟨b, o, e, _, _, hc⟩ := h.open (by intro e; have := congrArg List.length e; rw [bcells_length] at this; simp at this; subst this; simp at hj)
    cases e
    rw [Addr.add_lit]
    exact hc j _ (by simp [bcells, List.getElem?_eq_getElem hj])
set_option maxRecDepth 100000 in
theorem bytes_ok {S S' : Nat → Prop} {w : World} (A B : Option Addr) (c d : Nat) (xs ys : List UInt8) (hx : RowAt S w A (bcells xs)) (hy : RowAt S' w B (bcells ys)) :
    Calls Try.prog 12 #[.slice A xs.length c, .slice B ys.length d] w fun e w' => e = .returned (.bool (decide (xs = ys))) ∧ w' = w := by
  have r1 := conv_row c hx
  have r2 := conv_row d hy
  have hb := str_beq xs ys
  have hl1 : (xs.length : Nat) = xs.length := rfl
  clear hx hy
  generalize xs.length = n at r1 ⊢
  generalize ys.length = m at r2 ⊢
  go_enter Try.func12, Try.ntmps12
  go_wp2
  go_ret
  exact ⟨by rw [← hb]; rfl, rfl⟩
end

section
attribute [local go_sem] stPair gtPair gtK8 gtM6
attribute [local go_sem high] neqPair eqK8 eqM6
open Go.RowKit
set_option linter.unusedVariables false
/-- The closures' numbers, and what they have caught. -/
def tenFn : List Nat := [58, 59, 60, 62, 63, 64, 65, 67, 68, 70, 71, 72, 73, 74, 76, 77, 78, 81, 83]
def bxv (n : Nat) : Value := .pointer (some ⟨n, 0, none⟩)
def tenCap (n : Nat) : List (Array Value) :=
  List.replicate 13 #[bxv n, bxv (n + 1)] ++ [#[bxv n, bxv (n + 1), bxv (n + 2)], #[bxv n, bxv (n + 1), bxv (n + 3)], #[bxv n, bxv (n + 1), bxv (n + 4)], #[bxv n, bxv (n + 2), bxv (n + 1)], #[bxv n, bxv (n + 3), bxv (n + 1), bxv (n + 5)], #[bxv n, bxv (n + 4), bxv (n + 1), bxv (n + 5)]]
def tenRow (n : Nat) : List Value := (tenFn.zip (tenCap n)).map fun x => .func (.func x.1) #[] x.2
theorem ten_enters : ∀ f ∈ tenFn, ∀ (a : Array Value) (W : World), (callFunc f a).run Try.prog W = .ok (.enter f a) W := by
  intro f hf a W
  simp only [tenFn, List.mem_cons, List.mem_nil_iff, or_false] at hf
  rcases hf with rfl | rfl | rfl | rfl | rfl | rfl | rfl | rfl | rfl | rfl | rfl | rfl | rfl | rfl | rfl | rfl | rfl | rfl | rfl <;> go_simp
/-- The walk's world under a name. -/
theorem grab_world {P : Program} {c : Code} {Q : Exit → Act → World → Prop} {a : Act} {W : World} (h : ∀ w0, w0 = W → Code.wp P c Q a w0) : Code.wp P c Q a W := h _ rfl
theorem at_eq (w : World) (a : Obj) {i : Nat} (h : i = w.heap.size) : (w.alloc a).heap[i]? = some a := by subst h; exact at10 w a
theorem run_store_func {P : Program} {w : World} {a : Addr} {m : Mode} (f : Fn) (ts cs : Array Value) : (store a (.func f ts cs) m).run P w = stored P w a (.func f ts cs) m := run_store P w a _ m rfl
attribute [local go_sem] run_store_func
set_option maxRecDepth 100000 in
theorem tenant_walk {w : World} {C T o : Nat} (R : World → Prop)
    (H : ∀ w0, Mod No w w0 → Boxes w0 w.heap.size (w.heap.size + 1) C T o → w0.heap[w.heap.size + 2]? = some (.cells #[.int .i64 0] 3 (0, 0)) → w0.heap[w.heap.size + 3]? = some (.cells #[.int .i64 0] 3 (0, 0)) → w0.heap[w.heap.size + 4]? = some (.cells #[.int .i64 0] 3 (0, 0)) →
      w0.heap[w.heap.size + 5]? = some (.cells #[.func (.func 56) #[] #[bxv w.heap.size]] 117 (0, 0)) → w0.heap[w.heap.size + 6]? = some (.cells (tenRow w.heap.size).toArray 1 (0, 0)) →
      ∃ Inv : Nat → World → Prop, Inv 0 w0 ∧ (∀ k w1 f c, tenFn[k]? = some f → (tenCap w.heap.size)[k]? = some c → Inv k w1 → w1.heap[w.heap.size + 6]? = some (.cells (tenRow w.heap.size).toArray 1 (0, 0)) ∧ Calls Try.prog f c w1 fun e w' => e = .returned (.tuple #[]) ∧ Inv (k + 1) w') ∧ ∀ w', Inv 19 w' → R w') :
    Calls Try.prog 47 #[.pointer (some ⟨C, 0, none⟩), .pointer (some ⟨T, o, none⟩)] w fun e w' => e = .returned (.tuple #[]) ∧ R w' := by
  have HH := Lib.hid H
  clear H
  go_enter Try.func47, Try.ntmps47
  go_wp2
  refine grab_world fun w0 hw0 => ?_
  have hm0 : Mod No w w0 := by rw [hw0]; repeat (first | with_reducible exact Mod.refl _ _ | refine Mod.alloc ?_ _ | refine Mod.setCell ?_ (.inl (by simp; omega)) _)
  have k0 : w0.heap[w.heap.size]? = some (.cells #[.pointer (some ⟨C, 0, none⟩)] 98 (0, 0)) := by rw [hw0]; (repeat (first | (refine at_eq _ _ ?_; simp; done) | (refine (Below.heap_alloc _ _ _ ?_).trans ?_; (simp; try omega))))
  have k1 : w0.heap[w.heap.size + 1]? = some (.cells #[.pointer (some ⟨T, o, none⟩)] 102 (0, 0)) := by rw [hw0]; (repeat (first | (refine at_eq _ _ ?_; simp; done) | (refine (Below.heap_alloc _ _ _ ?_).trans ?_; (simp; try omega))))
  have k2 : w0.heap[w.heap.size + 2]? = some (.cells #[.int .i64 0] 3 (0, 0)) := by rw [hw0]; (repeat (first | (refine at_eq _ _ ?_; simp; done) | (refine (Below.heap_alloc _ _ _ ?_).trans ?_; (simp; try omega))))
  have k3 : w0.heap[w.heap.size + 3]? = some (.cells #[.int .i64 0] 3 (0, 0)) := by rw [hw0]; (repeat (first | (refine at_eq _ _ ?_; simp; done) | (refine (Below.heap_alloc _ _ _ ?_).trans ?_; (simp; try omega))))
  have k4 : w0.heap[w.heap.size + 4]? = some (.cells #[.int .i64 0] 3 (0, 0)) := by rw [hw0]; (repeat (first | (refine at_eq _ _ ?_; simp; done) | (refine (Below.heap_alloc _ _ _ ?_).trans ?_; (simp; try omega))))
  have k5 : w0.heap[w.heap.size + 5]? = some (.cells #[.func (.func 56) #[] #[bxv w.heap.size]] 117 (0, 0)) := by rw [hw0]; (repeat (first | (refine at_eq _ _ ?_; simp; done) | (refine (Below.heap_alloc _ _ _ ?_).trans ?_; (simp; try omega))))
  have k6 : w0.heap[w.heap.size + 6]? = some (.cells (tenRow w.heap.size).toArray 1 (0, 0)) := by rw [hw0]; refine (at_eq _ _ (by simp)).trans ?_; simp [tenRow, tenFn, tenCap, bxv, List.replicate]
  obtain ⟨Inv, h0, hstep, hend⟩ := HH.out w0 hm0 ⟨k0, k1⟩ k2 k3 k4 k5 k6
  have HI := Lib.hid (And.intro h0 (And.intro hstep hend))
  clear HH h0 hstep hend k0 k1 k2 k3 k4 k5 k6 hm0 hw0
  go_loopw [34] (fun i wr => ∃ k : Nat, i = .int .i64 k ∧ k ≤ 19 ∧ Inv k wr) (fun i _ => 19 - (intOf i).toNat)
  case atStart => exact ⟨0, rfl, by omega, HI.out.1⟩
  case round =>
    obtain ⟨k, rfl, hk, hinv⟩ := hrel
    have HV := Lib.hid hinv
    clear hinv
    by_cases hlt : k < 19
    · obtain ⟨f, hf⟩ : ∃ f, tenFn[k]? = some f := ⟨_, List.getElem?_eq_getElem hlt⟩
      obtain ⟨c, hc⟩ : ∃ c, (tenCap w.heap.size)[k]? = some c := ⟨_, List.getElem?_eq_getElem hlt⟩
      obtain ⟨hrow, hcall⟩ := HI.out.2.1 k _ f c hf hc HV.out
      have hcell : wr.cell? ⟨w.heap.size + 1 + 1 + 1 + 1 + 1 + 1, k, none⟩ = some (.func (.func f) #[] c) := by
        rw [show w.heap.size + 1 + 1 + 1 + 1 + 1 + 1 = w.heap.size + 6 from rfl, blk_cell hrow]
        simp [tenRow, (List.getElem?_zip_eq_some (z := (f, c))).2 ⟨hf, hc⟩]
      have hen := ten_enters f (List.mem_of_getElem? hf)
      have p1 : (0:Int) ≤ k := by omega
      have p2 : (k:Int) < 19 := by omega
      have HC := Lib.hid hcall
      clear hrow hcall hf hc
      go_wp2_with fail
      refine HC.out.mono ?_
      rintro e w2 ⟨rfl, hi⟩
      have HV2 := Lib.hid hi
      clear hi
      go_wp2
      exact ⟨⟨k + 1, by go_num, by omega, HV2.out⟩, by simp [intOf]; omega⟩
    · have hk' : k = 19 := by omega
      subst hk'
      go_wp2
      go_end0
      exact ⟨rfl, HI.out.2.2 _ HV.out⟩
end

section
attribute [local go_sem] stPair gtPair gtK8 gtM6 run_store_func
attribute [local go_sem high] neqPair eqK8 eqM6
open Go.RowKit
set_option linter.unusedVariables false
/-- A number as its low 64 bits. -/
def u64n (z : Int) : Nat := (IntKind.u64.wrap z).toNat
/-- A tenant's bytes, field by field. -/
def wfields (t : Ten) : List (List UInt8) :=
  [nameB' t.name, be 4 t.vni, t.key.l, be 4 t.vtep, t.vmac.l, t.host.l, be 2 t.lo, be 2 t.hi, be 1 (u64n t.filter), be 2 (u64n t.sess), be 2 (u64n t.queue), be 4 t.rate, be 4 t.burst,
    be 1 (min t.pool.length 255), be 1 (min t.statics.length 255), be 1 (min t.twices.length 255), nums4 (t.pool.take 255), prs8 (t.statics.take 255), prs8 (t.twices.take 255)]
/-- The name, cut. -/
def Ten.cut (t : Ten) : Ten := { t with name := t.name.take 255 }
/-- Each number lies in its type. -/
structure Ten.Ok (t : Ten) : Prop where
  vni : t.vni < 4294967296
  vtep : t.vtep < 4294967296
  lo : t.lo < 65536
  hi : t.hi < 65536
  rate : t.rate < 4294967296
  burst : t.burst < 4294967296
  pool : ∀ x ∈ t.pool, x < 4294967296
  statics : ∀ x ∈ t.statics, x.a < 4294967296 ∧ x.b < 4294967296
  twices : ∀ x ∈ t.twices, x.a < 4294967296 ∧ x.b < 4294967296
theorem mid_get {pre X post : List Value} {o j : Nat} (ho : pre.length = o) (hj : j < X.length) : (pre ++ X ++ post)[o + j]? = X[j]? := by
  rw [List.append_assoc, List.getElem?_append_right (by omega), List.getElem?_append_left (by omega)]
  congr 1
  omega
theorem mid_set {pre X post : List Value} {o j : Nat} (ho : pre.length = o) (hj : j < X.length) (v : Value) : (pre ++ X ++ post).set (o + j) v = pre ++ X.set j v ++ post := by
  rw [List.append_assoc, List.set_append_right _ _ (by omega), List.set_append_left _ _ (by omega), List.append_assoc]
  congr 3
  omega
structure TW (w0 : World) (n C base T : Nat) (v0 : Value) (pre post : List Value) (tt : TypeId) (vp vs vt : Value) (t : Ten) (np ns nt : Nat) (X : List UInt8) (v : Value) (w : World) : Prop where
  wr : Wr w C base X v
  row : ∀ g, v.ownBlock = some g → v0.ownBlock = some g ∨ w0.heap.size ≤ g
  ten : w.heap[T]? = some (.cells (pre ++ (t.cells vp vs vt).toList ++ post).toArray tt (0, 0))
  mod : Mod (fun b => b = C ∨ v0.ownBlock = some b ∨ b = T ∨ n + 2 ≤ b ∧ b ≤ n + 4) w0 w
  hp : w.heap[n + 2]? = some (.cells #[.int .i64 (np : Int)] 3 (0, 0))
  hs : w.heap[n + 3]? = some (.cells #[.int .i64 (ns : Int)] 3 (0, 0))
  ht : w.heap[n + 4]? = some (.cells #[.int .i64 (nt : Int)] 3 (0, 0))
/-- What the walk's first world gives, and what the call was given. -/
structure TG (w0 : World) (n C base T o : Nat) (v0 : Value) (pre post : List Value) (tt : TypeId) (vp vs vt : Value) (t : Ten) : Prop where
  bx : Boxes w0 n (n + 1) C T o
  pr : w0.heap[n + 5]? = some (.cells #[.func (.func 56) #[] #[bxv n]] 117 (0, 0))
  rw6 : w0.heap[n + 6]? = some (.cells (tenRow n).toArray 1 (0, 0))
  C_lt : C < n
  T_lt : T < n
  TC : T ≠ C
  T_ge : base ≤ T
  own : ∀ g, v0.ownBlock = some g → base ≤ g ∧ g < n
  base_le : base ≤ n
  C_ge : base ≤ C
  tt5 : tt ≠ 5
  ho : pre.length = o
  ok : t.Ok
  name : t.name.length ≤ 100000000
  rows : ∃ P p Q q R r, vp = .slice P t.pool.length p ∧ vs = .slice Q t.statics.length q ∧ vt = .slice R t.twices.length r ∧ RowAt (· < base) w0 P (numCells t.pool) ∧ RowAt (· < base) w0 Q (prCells t.statics) ∧ RowAt (· < base) w0 R (prCells t.twices)
section
variable {w0 : World} {n C base T o : Nat} {v0 : Value} {pre post : List Value} {tt : TypeId} {vp vs vt : Value} {t t1 : Ten} {np ns nt : Nat} {X : List UInt8} {v : Value} {w : World}
theorem TG.gt (g : TG w0 n C base T o v0 pre post tt vp vs vt t) : n + 6 < w0.heap.size := lt_of_block g.rw6
theorem TW.keep (h : TW w0 n C base T v0 pre post tt vp vs vt t1 np ns nt X v w) (g : TG w0 n C base T o v0 pre post tt vp vs vt t) {b : Nat} {ob : Obj} (hb : w0.heap[b]? = some ob) (h1 : n ≤ b) (h2 : b < n + 2 ∨ n + 4 < b) : w.heap[b]? = some ob := by
  refine h.mod.obj hb ?_
  have := g.C_lt
  have := g.T_lt
  rintro (f | f | f | f)
  · omega
  · have := (g.own b f).2; omega
  · omega
  · omega
theorem TW.boxes (h : TW w0 n C base T v0 pre post tt vp vs vt t1 np ns nt X v w) (g : TG w0 n C base T o v0 pre post tt vp vs vt t) : Boxes w n (n + 1) C T o :=
  ⟨h.keep g g.bx.c (by omega) (by omega), h.keep g g.bx.t (by omega) (by omega)⟩
/-- What a step turned of v's, seen from the first world. -/
theorem TW.mod' (h : TW w0 n C base T v0 pre post tt vp vs vt t1 np ns nt X v w) {w' : World} {E : Nat → Prop} (hm : Mod (fun b => b = C ∨ v.ownBlock = some b ∨ E b) w w') (hE : ∀ b, E b → b = T ∨ n + 2 ≤ b ∧ b ≤ n + 4) :
    Mod (fun b => b = C ∨ v0.ownBlock = some b ∨ b = T ∨ n + 2 ≤ b ∧ b ≤ n + 4) w0 w' :=
  h.mod.trans' hm fun i hi f => by
    rcases f with f | f | f
    · exact .inl f
    · rcases h.row i f with f | f
      · exact .inr (.inl f)
      · omega
    · exact .inr (.inr (hE i f))
theorem TW.row' (h : TW w0 n C base T v0 pre post tt vp vs vt t1 np ns nt X v w) {v' : Value} (hr : ∀ g, v'.ownBlock = some g → v.ownBlock = some g ∨ w.heap.size ≤ g) : ∀ g, v'.ownBlock = some g → v0.ownBlock = some g ∨ w0.heap.size ≤ g := by
  intro g hg
  rcases hr g hg with f | f
  · exact h.row g f
  · exact .inr (Nat.le_trans h.mod.size f)
theorem TW.next (h : TW w0 n C base T v0 pre post tt vp vs vt t1 np ns nt X v w) (g : TG w0 n C base T o v0 pre post tt vp vs vt t) {X' : List UInt8} {v' : Value} {w' : World} (hw : Wr w' C base X' v') (hm : WMod C v w v' w') :
    TW w0 n C base T v0 pre post tt vp vs vt t1 np ns nt X' v' w' := by
  have k1 := g.C_lt
  exact ⟨hw, h.row' hm.row, hm.obj h.ten g.TC (h.wr.ne h.ten g.tt5), h.mod' (E := fun _ => False) (hm.mod.mono (fun i f => by rcases f with f | f; exact .inl f; exact .inr (.inl f))) (fun _ f => f.elim),
    hm.obj h.hp (by omega) (h.wr.ne h.hp (by decide)), hm.obj h.hs (by omega) (h.wr.ne h.hs (by decide)), hm.obj h.ht (by omega) (h.wr.ne h.ht (by decide))⟩
theorem TW.cell (h : TW w0 n C base T v0 pre post tt vp vs vt t1 np ns nt X v w) (g : TG w0 n C base T o v0 pre post tt vp vs vt t) {j : Nat} {u : Value} (hj : j < 33) (hu : (t1.cells vp vs vt).toList[j]? = some u) : w.cell? ⟨T, o + j, none⟩ = some u := by
  rw [blk_cell h.ten, List.getElem?_toArray, mid_get g.ho (by simpa [Ten.cells] using hj), hu]
end
section
variable {w0 : World} {n C base T o : Nat} {v0 : Value} {pre post : List Value} {tt : TypeId} {vp vs vt : Value} {t : Ten} {L : List UInt8} {v : Value} {w : World}
end
end

section
attribute [local go_sem] stPair gtPair gtK8 gtM6 run_store_func
attribute [local go_sem high] neqPair eqK8 eqM6
open Go.RowKit
set_option linter.unusedVariables false
/-- Two boxes: the coder's address, the settings'. -/
structure BoxesC (w : World) (bc bt C T o : Nat) : Prop where
  c : w.heap[bc]? = some (.cells #[.pointer (some ⟨C, 0, none⟩)] 98 (0, 0))
  t : w.heap[bt]? = some (.cells #[.pointer (some ⟨T, o, none⟩)] 107 (0, 0))
set_option maxRecDepth 100000 in
theorem con_ip_rd {S : Nat → Prop} {w : World} {C : Nat} {A : Option Addr} {c at_ : Nat} {sh : Bool} (B : List UInt8) (hb : w.heap[C]? = some (rdObj A B.length c at_ sh)) (hrow : RowAt S w A (bcells B)) (hat : at_ ≤ B.length) (hc : B.length ≤ c) (hB : B.length ≤ 100000000) (hS : ¬ S C) {bc bt T o : Nat} (hx : BoxesC w bc bt C T o)
    {cs : Array Value} {t : TypeId} (hT : w.heap[T]? = some (.cells cs t (0, 0))) (ho : o < cs.size) (h1 : T ≠ C) :
    Calls Try.prog 84 #[.pointer (some ⟨bc, 0, none⟩), .pointer (some ⟨bt, 0, none⟩)] w fun e w' => e = .returned (.tuple #[]) ∧ w'.heap[C]? = some (rdObj A B.length c (rtake B (at_, sh) 4).2.1 (rtake B (at_, sh) 4).2.2) ∧
      w'.heap[T]? = some (.cells (cs.setIfInBounds (o) (.int .u32 (beval (rtake B (at_, sh) 4).1))) t (0, 0)) ∧ Mod (fun b => b = C ∨ b = T) w w' := by
  have hd : ∀ W, W = w.drew → Calls Try.prog 57 #[.pointer (some ⟨C, 0, none⟩), .int .i64 4, .pointer (some ⟨T, o, none⟩)] W fun e w' => e = .returned (.tuple #[]) ∧ w'.heap[C]? = some (rdObj A B.length c (rtake B (at_, sh) 4).2.1 (rtake B (at_, sh) 4).2.2) ∧
      w'.heap[T]? = some (.cells (cs.setIfInBounds (o) (.int .u32 (beval (rtake B (at_, sh) 4).1))) t (0, 0)) ∧ Mod (fun b => b = C ∨ b = T) w w' := by
    intro W hW
    subst hW
    exact (num_u32_rd (w := w.drew) B hb (hrow.keeps (Mod.keeps (Mod.drew (Mod.refl No w)) (fun _ _ _ f => f))) hat hc hB 4 (by decide) hS hT ho h1).mono fun e w' ⟨e1, e2, e3, e4⟩ => ⟨e1, e2, e3, (Mod.refl _ w).drew.trans e4⟩
  have c0 := blk_cell hx.c 0
  have c1 := blk_cell hx.t 0
  simp at c0 c1
  obtain ⟨R, hR⟩ : ∃ R : World → Prop, R = fun w' => w'.heap[C]? = some (rdObj A B.length c (rtake B (at_, sh) 4).2.1 (rtake B (at_, sh) 4).2.2) ∧
      w'.heap[T]? = some (.cells (cs.setIfInBounds (o) (.int .u32 (beval (rtake B (at_, sh) 4).1))) t (0, 0)) ∧ Mod (fun b => b = C ∨ b = T) w w' := ⟨_, rfl⟩
  have hd' : ∀ W, W = w.drew → Calls Try.prog 57 #[.pointer (some ⟨C, 0, none⟩), .int .i64 4, .pointer (some ⟨T, o, none⟩)] W fun e w' => e = .returned (.tuple #[]) ∧ R w' := by
    rw [hR]; exact hd
  suffices hs : Calls Try.prog 84 #[.pointer (some ⟨bc, 0, none⟩), .pointer (some ⟨bt, 0, none⟩)] w fun e w' => e = .returned (.tuple #[]) ∧ R w' by
    rw [hR] at hs; exact hs
  have HD := Lib.hid hd'
  clear hb hrow hat hc hB hS hx hT ho hd hd' hR
  go_enter Try.func84, Try.ntmps84
  go_wp2_with fail
  go_region_law (first | (go_simp; go_at_call 57; refine (HD.out _ rfl).mono ?_; rintro e w1 ⟨rfl, hr⟩; have HW := Lib.hid hr; clear hr))
  all_goals
    go_wp2
    first | go_end0 | (simp only [Exit.inBlock, Exit.then]; refine bodyPost_ret (results_none rfl _ _ _) rfl ?_) | refine bodyPost_ret (results_none rfl _ _ _) rfl ?_
    exact ⟨rfl, HW.out⟩
set_option maxRecDepth 100000 in
theorem con_mac_rd {S : Nat → Prop} {w : World} {C : Nat} {A : Option Addr} {c at_ : Nat} {sh : Bool} (B : List UInt8) (hb : w.heap[C]? = some (rdObj A B.length c at_ sh)) (hrow : RowAt S w A (bcells B)) (hat : at_ ≤ B.length) (hc : B.length ≤ c) (hB : B.length ≤ 100000000) (hS : ¬ S C) {bc bt T o : Nat} (hx : BoxesC w bc bt C T o)
    {cs : List Value} {t : TypeId} (hT : w.heap[T]? = some (.cells cs.toArray t (0, 0))) (ho : o + 1 + 6 ≤ cs.length) (h1 : T ≠ C) :
    Calls Try.prog 85 #[.pointer (some ⟨bc, 0, none⟩), .pointer (some ⟨bt, 0, none⟩)] w fun e w' => e = .returned (.tuple #[]) ∧ w'.heap[C]? = some (rdObj A B.length c (rtake B (at_, sh) 6).2.1 (rtake B (at_, sh) 6).2.2) ∧
      w'.heap[T]? = some (.cells (splice cs (o + 1) (bcells (rtake B (at_, sh) 6).1)).toArray t (0, 0)) ∧ Mod (fun b => b = C ∨ b = T) w w' := by
  obtain ⟨R, hR⟩ : ∃ R : World → Prop, R = fun w' => w'.heap[C]? = some (rdObj A B.length c (rtake B (at_, sh) 6).2.1 (rtake B (at_, sh) 6).2.2) ∧
      w'.heap[T]? = some (.cells (splice cs (o + 1) (bcells (rtake B (at_, sh) 6).1)).toArray t (0, 0)) ∧ Mod (fun b => b = C ∨ b = T) w w' := ⟨_, rfl⟩
  have hd : ∀ W, W = w.drew → Calls Try.prog 61 #[.pointer (some ⟨C, 0, none⟩), .slice (some ⟨T, o + 1, none⟩) 6 6] W fun e w' => e = .returned (.tuple #[]) ∧ R w' := by
    intro W hW
    subst hW
    rw [hR]
    exact (bytes_rd (w := w.drew) B hb (hrow.keeps (Mod.keeps (Mod.drew (Mod.refl No w)) (fun _ _ _ f => f))) hat hc hB 6 (by decide) hS hT ho h1).mono fun e w' ⟨e1, e2, e3, e4⟩ => ⟨e1, e2, e3, (Mod.refl _ w).drew.trans e4⟩
  have c0 := blk_cell hx.c 0
  have c1 := blk_cell hx.t 0
  simp at c0 c1
  suffices hs : Calls Try.prog 85 #[.pointer (some ⟨bc, 0, none⟩), .pointer (some ⟨bt, 0, none⟩)] w fun e w' => e = .returned (.tuple #[]) ∧ R w' by
    rw [hR] at hs; exact hs
  have HD := Lib.hid hd
  clear hb hrow hat hc hB hS hx hT ho hd hR
  go_enter Try.func85, Try.ntmps85
  go_wp2_with fail
  go_region_law (first | (go_simp; go_at_call 61; refine (HD.out _ rfl).mono ?_; rintro e w1 ⟨rfl, hr⟩; have HW := Lib.hid hr; clear hr))
  all_goals
    go_wp2
    first | go_end0 | (simp only [Exit.inBlock, Exit.then]; refine bodyPost_ret (results_none rfl _ _ _) rfl ?_) | refine bodyPost_ret (results_none rfl _ _ _) rfl ?_
    exact ⟨rfl, HW.out⟩
set_option maxRecDepth 100000 in
theorem con_omac_rd {S : Nat → Prop} {w : World} {C : Nat} {A : Option Addr} {c at_ : Nat} {sh : Bool} (B : List UInt8) (hb : w.heap[C]? = some (rdObj A B.length c at_ sh)) (hrow : RowAt S w A (bcells B)) (hat : at_ ≤ B.length) (hc : B.length ≤ c) (hB : B.length ≤ 100000000) (hS : ¬ S C) {bc bt T o : Nat} (hx : BoxesC w bc bt C T o)
    {cs : List Value} {t : TypeId} (hT : w.heap[T]? = some (.cells cs.toArray t (0, 0))) (ho : o + 7 + 6 ≤ cs.length) (h1 : T ≠ C) :
    Calls Try.prog 86 #[.pointer (some ⟨bc, 0, none⟩), .pointer (some ⟨bt, 0, none⟩)] w fun e w' => e = .returned (.tuple #[]) ∧ w'.heap[C]? = some (rdObj A B.length c (rtake B (at_, sh) 6).2.1 (rtake B (at_, sh) 6).2.2) ∧
      w'.heap[T]? = some (.cells (splice cs (o + 7) (bcells (rtake B (at_, sh) 6).1)).toArray t (0, 0)) ∧ Mod (fun b => b = C ∨ b = T) w w' := by
  obtain ⟨R, hR⟩ : ∃ R : World → Prop, R = fun w' => w'.heap[C]? = some (rdObj A B.length c (rtake B (at_, sh) 6).2.1 (rtake B (at_, sh) 6).2.2) ∧
      w'.heap[T]? = some (.cells (splice cs (o + 7) (bcells (rtake B (at_, sh) 6).1)).toArray t (0, 0)) ∧ Mod (fun b => b = C ∨ b = T) w w' := ⟨_, rfl⟩
  have hd : ∀ W, W = w.drew → Calls Try.prog 61 #[.pointer (some ⟨C, 0, none⟩), .slice (some ⟨T, o + 7, none⟩) 6 6] W fun e w' => e = .returned (.tuple #[]) ∧ R w' := by
    intro W hW
    subst hW
    rw [hR]
    exact (bytes_rd (w := w.drew) B hb (hrow.keeps (Mod.keeps (Mod.drew (Mod.refl No w)) (fun _ _ _ f => f))) hat hc hB 6 (by decide) hS hT ho h1).mono fun e w' ⟨e1, e2, e3, e4⟩ => ⟨e1, e2, e3, (Mod.refl _ w).drew.trans e4⟩
  have c0 := blk_cell hx.c 0
  have c1 := blk_cell hx.t 0
  simp at c0 c1
  suffices hs : Calls Try.prog 86 #[.pointer (some ⟨bc, 0, none⟩), .pointer (some ⟨bt, 0, none⟩)] w fun e w' => e = .returned (.tuple #[]) ∧ R w' by
    rw [hR] at hs; exact hs
  have HD := Lib.hid hd
  clear hb hrow hat hc hB hS hx hT ho hd hR
  go_enter Try.func86, Try.ntmps86
  go_wp2_with fail
  go_region_law (first | (go_simp; go_at_call 61; refine (HD.out _ rfl).mono ?_; rintro e w1 ⟨rfl, hr⟩; have HW := Lib.hid hr; clear hr))
  all_goals
    go_wp2
    first | go_end0 | (simp only [Exit.inBlock, Exit.then]; refine bodyPost_ret (results_none rfl _ _ _) rfl ?_) | refine bodyPost_ret (results_none rfl _ _ _) rfl ?_
    exact ⟨rfl, HW.out⟩
set_option maxRecDepth 100000 in
theorem con_nmac_rd {S : Nat → Prop} {w : World} {C : Nat} {A : Option Addr} {c at_ : Nat} {sh : Bool} (B : List UInt8) (hb : w.heap[C]? = some (rdObj A B.length c at_ sh)) (hrow : RowAt S w A (bcells B)) (hat : at_ ≤ B.length) (hc : B.length ≤ c) (hB : B.length ≤ 100000000) (hS : ¬ S C) {bc bt T o : Nat} (hx : BoxesC w bc bt C T o)
    {cs : List Value} {t : TypeId} (hT : w.heap[T]? = some (.cells cs.toArray t (0, 0))) (ho : o + 13 + 6 ≤ cs.length) (h1 : T ≠ C) :
    Calls Try.prog 87 #[.pointer (some ⟨bc, 0, none⟩), .pointer (some ⟨bt, 0, none⟩)] w fun e w' => e = .returned (.tuple #[]) ∧ w'.heap[C]? = some (rdObj A B.length c (rtake B (at_, sh) 6).2.1 (rtake B (at_, sh) 6).2.2) ∧
      w'.heap[T]? = some (.cells (splice cs (o + 13) (bcells (rtake B (at_, sh) 6).1)).toArray t (0, 0)) ∧ Mod (fun b => b = C ∨ b = T) w w' := by
  obtain ⟨R, hR⟩ : ∃ R : World → Prop, R = fun w' => w'.heap[C]? = some (rdObj A B.length c (rtake B (at_, sh) 6).2.1 (rtake B (at_, sh) 6).2.2) ∧
      w'.heap[T]? = some (.cells (splice cs (o + 13) (bcells (rtake B (at_, sh) 6).1)).toArray t (0, 0)) ∧ Mod (fun b => b = C ∨ b = T) w w' := ⟨_, rfl⟩
  have hd : ∀ W, W = w.drew → Calls Try.prog 61 #[.pointer (some ⟨C, 0, none⟩), .slice (some ⟨T, o + 13, none⟩) 6 6] W fun e w' => e = .returned (.tuple #[]) ∧ R w' := by
    intro W hW
    subst hW
    rw [hR]
    exact (bytes_rd (w := w.drew) B hb (hrow.keeps (Mod.keeps (Mod.drew (Mod.refl No w)) (fun _ _ _ f => f))) hat hc hB 6 (by decide) hS hT ho h1).mono fun e w' ⟨e1, e2, e3, e4⟩ => ⟨e1, e2, e3, (Mod.refl _ w).drew.trans e4⟩
  have c0 := blk_cell hx.c 0
  have c1 := blk_cell hx.t 0
  simp at c0 c1
  suffices hs : Calls Try.prog 87 #[.pointer (some ⟨bc, 0, none⟩), .pointer (some ⟨bt, 0, none⟩)] w fun e w' => e = .returned (.tuple #[]) ∧ R w' by
    rw [hR] at hs; exact hs
  have HD := Lib.hid hd
  clear hb hrow hat hc hB hS hx hT ho hd hR
  go_enter Try.func87, Try.ntmps87
  go_wp2_with fail
  go_region_law (first | (go_simp; go_at_call 61; refine (HD.out _ rfl).mono ?_; rintro e w1 ⟨rfl, hr⟩; have HW := Lib.hid hr; clear hr))
  all_goals
    go_wp2
    first | go_end0 | (simp only [Exit.inBlock, Exit.then]; refine bodyPost_ret (results_none rfl _ _ _) rfl ?_) | refine bodyPost_ret (results_none rfl _ _ _) rfl ?_
    exact ⟨rfl, HW.out⟩
set_option maxRecDepth 100000 in
theorem con_key_rd {S : Nat → Prop} {w : World} {C : Nat} {A : Option Addr} {c at_ : Nat} {sh : Bool} (B : List UInt8) (hb : w.heap[C]? = some (rdObj A B.length c at_ sh)) (hrow : RowAt S w A (bcells B)) (hat : at_ ≤ B.length) (hc : B.length ≤ c) (hB : B.length ≤ 100000000) (hS : ¬ S C) {bc bt T o : Nat} (hx : BoxesC w bc bt C T o)
    {cs : List Value} {t : TypeId} (hT : w.heap[T]? = some (.cells cs.toArray t (0, 0))) (ho : o + 19 + 8 ≤ cs.length) (h1 : T ≠ C) :
    Calls Try.prog 88 #[.pointer (some ⟨bc, 0, none⟩), .pointer (some ⟨bt, 0, none⟩)] w fun e w' => e = .returned (.tuple #[]) ∧ w'.heap[C]? = some (rdObj A B.length c (rtake B (at_, sh) 8).2.1 (rtake B (at_, sh) 8).2.2) ∧
      w'.heap[T]? = some (.cells (splice cs (o + 19) (bcells (rtake B (at_, sh) 8).1)).toArray t (0, 0)) ∧ Mod (fun b => b = C ∨ b = T) w w' := by
  obtain ⟨R, hR⟩ : ∃ R : World → Prop, R = fun w' => w'.heap[C]? = some (rdObj A B.length c (rtake B (at_, sh) 8).2.1 (rtake B (at_, sh) 8).2.2) ∧
      w'.heap[T]? = some (.cells (splice cs (o + 19) (bcells (rtake B (at_, sh) 8).1)).toArray t (0, 0)) ∧ Mod (fun b => b = C ∨ b = T) w w' := ⟨_, rfl⟩
  have hd : ∀ W, W = w.drew → Calls Try.prog 61 #[.pointer (some ⟨C, 0, none⟩), .slice (some ⟨T, o + 19, none⟩) 8 8] W fun e w' => e = .returned (.tuple #[]) ∧ R w' := by
    intro W hW
    subst hW
    rw [hR]
    exact (bytes_rd (w := w.drew) B hb (hrow.keeps (Mod.keeps (Mod.drew (Mod.refl No w)) (fun _ _ _ f => f))) hat hc hB 8 (by decide) hS hT ho h1).mono fun e w' ⟨e1, e2, e3, e4⟩ => ⟨e1, e2, e3, (Mod.refl _ w).drew.trans e4⟩
  have c0 := blk_cell hx.c 0
  have c1 := blk_cell hx.t 0
  simp at c0 c1
  suffices hs : Calls Try.prog 88 #[.pointer (some ⟨bc, 0, none⟩), .pointer (some ⟨bt, 0, none⟩)] w fun e w' => e = .returned (.tuple #[]) ∧ R w' by
    rw [hR] at hs; exact hs
  have HD := Lib.hid hd
  clear hb hrow hat hc hB hS hx hT ho hd hR
  go_enter Try.func88, Try.ntmps88
  go_wp2_with fail
  go_region_law (first | (go_simp; go_at_call 61; refine (HD.out _ rfl).mono ?_; rintro e w1 ⟨rfl, hr⟩; have HW := Lib.hid hr; clear hr))
  all_goals
    go_wp2
    first | go_end0 | (simp only [Exit.inBlock, Exit.then]; refine bodyPost_ret (results_none rfl _ _ _) rfl ?_) | refine bodyPost_ret (results_none rfl _ _ _) rfl ?_
    exact ⟨rfl, HW.out⟩
set_option maxRecDepth 100000 in
theorem con_drain_rd {S : Nat → Prop} {w : World} {C : Nat} {A : Option Addr} {c at_ : Nat} {sh : Bool} (B : List UInt8) (hb : w.heap[C]? = some (rdObj A B.length c at_ sh)) (hrow : RowAt S w A (bcells B)) (hat : at_ ≤ B.length) (hc : B.length ≤ c) (hB : B.length ≤ 100000000) (hS : ¬ S C) {bc bt T o : Nat} (hx : BoxesC w bc bt C T o)
    {cs : Array Value} {t : TypeId} (hT : w.heap[T]? = some (.cells cs t (0, 0))) (ho : o + 27 < cs.size) (h1 : T ≠ C) :
    Calls Try.prog 89 #[.pointer (some ⟨bc, 0, none⟩), .pointer (some ⟨bt, 0, none⟩)] w fun e w' => e = .returned (.tuple #[]) ∧ w'.heap[C]? = some (rdObj A B.length c (rtake B (at_, sh) 4).2.1 (rtake B (at_, sh) 4).2.2) ∧
      w'.heap[T]? = some (.cells (cs.setIfInBounds (o + 27) (.int .u32 (beval (rtake B (at_, sh) 4).1))) t (0, 0)) ∧ Mod (fun b => b = C ∨ b = T) w w' := by
  have hd : ∀ W, W = w.drew → Calls Try.prog 57 #[.pointer (some ⟨C, 0, none⟩), .int .i64 4, .pointer (some ⟨T, o + 27, none⟩)] W fun e w' => e = .returned (.tuple #[]) ∧ w'.heap[C]? = some (rdObj A B.length c (rtake B (at_, sh) 4).2.1 (rtake B (at_, sh) 4).2.2) ∧
      w'.heap[T]? = some (.cells (cs.setIfInBounds (o + 27) (.int .u32 (beval (rtake B (at_, sh) 4).1))) t (0, 0)) ∧ Mod (fun b => b = C ∨ b = T) w w' := by
    intro W hW
    subst hW
    exact (num_u32_rd (w := w.drew) B hb (hrow.keeps (Mod.keeps (Mod.drew (Mod.refl No w)) (fun _ _ _ f => f))) hat hc hB 4 (by decide) hS hT ho h1).mono fun e w' ⟨e1, e2, e3, e4⟩ => ⟨e1, e2, e3, (Mod.refl _ w).drew.trans e4⟩
  have c0 := blk_cell hx.c 0
  have c1 := blk_cell hx.t 0
  simp at c0 c1
  obtain ⟨R, hR⟩ : ∃ R : World → Prop, R = fun w' => w'.heap[C]? = some (rdObj A B.length c (rtake B (at_, sh) 4).2.1 (rtake B (at_, sh) 4).2.2) ∧
      w'.heap[T]? = some (.cells (cs.setIfInBounds (o + 27) (.int .u32 (beval (rtake B (at_, sh) 4).1))) t (0, 0)) ∧ Mod (fun b => b = C ∨ b = T) w w' := ⟨_, rfl⟩
  have hd' : ∀ W, W = w.drew → Calls Try.prog 57 #[.pointer (some ⟨C, 0, none⟩), .int .i64 4, .pointer (some ⟨T, o + 27, none⟩)] W fun e w' => e = .returned (.tuple #[]) ∧ R w' := by
    rw [hR]; exact hd
  suffices hs : Calls Try.prog 89 #[.pointer (some ⟨bc, 0, none⟩), .pointer (some ⟨bt, 0, none⟩)] w fun e w' => e = .returned (.tuple #[]) ∧ R w' by
    rw [hR] at hs; exact hs
  have HD := Lib.hid hd'
  clear hb hrow hat hc hB hS hx hT ho hd hd' hR
  go_enter Try.func89, Try.ntmps89
  go_wp2_with fail
  go_region_law (first | (go_simp; go_at_call 57; refine (HD.out _ rfl).mono ?_; rintro e w1 ⟨rfl, hr⟩; have HW := Lib.hid hr; clear hr))
  all_goals
    go_wp2
    first | go_end0 | (simp only [Exit.inBlock, Exit.then]; refine bodyPost_ret (results_none rfl _ _ _) rfl ?_) | refine bodyPost_ret (results_none rfl _ _ _) rfl ?_
    exact ⟨rfl, HW.out⟩
set_option maxRecDepth 100000 in
theorem con_n_rd {S : Nat → Prop} {w : World} {C : Nat} {A : Option Addr} {c at_ : Nat} {sh : Bool} (B : List UInt8) (hb : w.heap[C]? = some (rdObj A B.length c at_ sh)) (hrow : RowAt S w A (bcells B)) (hat : at_ ≤ B.length) (hc : B.length ≤ c) (hB : B.length ≤ 100000000) (hS : ¬ S C) {bc bt bp T o : Nat} (hx : BoxesC w bc bt C T o)
    {P : Option Addr} {n p : Nat} (hT : w.cell? ⟨T, o + 28, none⟩ = some (.slice P n p)) {x0 : Value} (hp : w.heap[bp]? = some (.cells #[x0] 3 (0, 0))) (h3 : bp ≠ C) :
    Calls Try.prog 90 #[.pointer (some ⟨bc, 0, none⟩), .pointer (some ⟨bt, 0, none⟩), .pointer (some ⟨bp, 0, none⟩)] w fun e w' => e = .returned (.tuple #[]) ∧ w'.heap[C]? = some (rdObj A B.length c (rtake B (at_, sh) 1).2.1 (rtake B (at_, sh) 1).2.2) ∧
      w'.heap[bp]? = some (.cells #[.int .i64 (beval (rtake B (at_, sh) 1).1)] 3 (0, 0)) ∧ Mod (fun b => b = C ∨ b = bp) w w' := by
  obtain ⟨m, hm⟩ : ∃ m, m = beval (rtake B (at_, sh) 1).1 := ⟨_, rfl⟩
  rw [← hm]
  obtain ⟨R, hR⟩ : ∃ R : World → Prop, R = fun w' => w'.heap[C]? = some (rdObj A B.length c (rtake B (at_, sh) 1).2.1 (rtake B (at_, sh) 1).2.2) ∧ w'.heap[bp]? = some (.cells #[.int .i64 m] 3 (0, 0)) ∧ Mod (fun b => b = C ∨ b = bp) w w' := ⟨_, rfl⟩
  have hd : ∀ W, W = w.drew → Calls Try.prog 75 #[.pointer (some ⟨C, 0, none⟩), .int .i64 n] W fun e w' => e = .returned (.int .i64 m) ∧ w'.cell? ⟨bp, 0, none⟩ = some x0 ∧ w'.frozen? ⟨bp, 0, none⟩ = false ∧ R (w'.setCell ⟨bp, 0, none⟩ (.int .i64 m)) := by
    intro W hW
    subst hW
    have hcr := count_rd (w := w.drew) B hb (hrow.keeps (Mod.keeps (Mod.drew (Mod.refl No w)) (fun _ _ _ f => f))) hat hc hB hS n
    rw [← hm] at hcr
    refine hcr.mono fun e w' ⟨he, a1, a2⟩ => ?_
    have hp' : w'.heap[bp]? = some (.cells #[x0] 3 (0, 0)) := a2.obj (w := w.drew) hp h3
    rw [hR]
    refine ⟨he, (blk_cell hp' 0).trans rfl, blk_free hp' 0, ?_, ?_, ?_⟩
    · rw [heap_setCell_ne _ _ (fun e => h3 e.symm)]
      exact a1
    · rw [heap_setCell_row hp']; simp
    · exact Mod.setCell ((Mod.refl _ w).drew.trans (a2.mono (fun i hi => .inl hi))) (.inr (.inr rfl)) _
  have c0 := blk_cell hx.c 0
  have c1 := blk_cell hx.t 0
  simp at c0 c1
  suffices hs : Calls Try.prog 90 #[.pointer (some ⟨bc, 0, none⟩), .pointer (some ⟨bt, 0, none⟩), .pointer (some ⟨bp, 0, none⟩)] w fun e w' => e = .returned (.tuple #[]) ∧ R w' by
    rw [hR] at hs; exact hs
  have HD := Lib.hid hd
  clear hb hrow hat hc hB hS hx hp h3 hd hR hm
  go_enter Try.func90, Try.ntmps90
  go_wp2_with fail
  go_region_law (first | (go_simp; go_at_call 75; refine (HD.out _ rfl).mono ?_; rintro e w1 ⟨rfl, d1, f1, hr⟩; have HW := Lib.hid hr; clear hr))
  all_goals
    go_wp2
    first | go_end0 | (simp only [Exit.inBlock, Exit.then]; refine bodyPost_ret (results_none rfl _ _ _) rfl ?_) | refine bodyPost_ret (results_none rfl _ _ _) rfl ?_
    exact ⟨rfl, HW.out⟩
end

section
attribute [local go_sem] stPair gtPair gtK8 gtM6 run_store_func
attribute [local go_sem high] neqPair eqK8 eqM6
open Go.RowKit
set_option linter.unusedVariables false
abbrev St := Nat × Bool
/-- So many are read, till the bytes end. -/
def rmany {α : Type} (rd : St → α × St) : Nat → St → List α × St
  | 0, s => ([], s)
  | n + 1, s => if s.2 = true then ([], s) else ((rd s).1 :: (rmany rd n (rd s).2).1, (rmany rd n (rd s).2).2)
theorem rmany_short {α : Type} (rd : St → α × St) (n : Nat) {s : St} (h : s.2 = true) : rmany rd n s = ([], s) := by
  cases n with
  | zero => rfl
  | succ n => simp [rmany, h]
theorem rmany_step {α : Type} (rd : St → α × St) (n : Nat) {s : St} (h : s.2 = false) : rmany rd (n + 1) s = ((rd s).1 :: (rmany rd n (rd s).2).1, (rmany rd n (rd s).2).2) := by simp [rmany, h]
theorem rmany_le {α : Type} {rd : St → α × St} {m : Nat} (h : ∀ s, s.1 ≤ m → (rd s).2.1 ≤ m) : ∀ n s, s.1 ≤ m → (rmany rd n s).2.1 ≤ m
  | 0, s, hs => hs
  | n + 1, s, hs => by
    unfold rmany
    split
    · exact hs
    · exact rmany_le h n _ (h s hs)
def rnum (B : List UInt8) (k : Nat) (s : St) : Nat × St := (beval (rtake B s k).1, (rtake B s k).2)
def rpr (B : List UInt8) (s : St) : Pr × St := (⟨(rnum B 4 s).1, (rnum B 4 (rnum B 4 s).2).1⟩, (rnum B 4 (rnum B 4 s).2).2)
theorem rnum_le (B : List UInt8) (k : Nat) (s : St) (h : s.1 ≤ B.length) : (rnum B k s).2.1 ≤ B.length := rtake_le B s k h
theorem rpr_le (B : List UInt8) (s : St) (h : s.1 ≤ B.length) : (rpr B s).2.1 ≤ B.length := rtake_le B _ 4 (rtake_le B s 4 h)
theorem rnum_lt (B : List UInt8) (k : Nat) (s : St) : (rnum B k s).1 < 256 ^ k := by
  have := beval_lt (rtake B s k).1
  rwa [rtake_length] at this
theorem infou32 : (Try.prog.info? 26).map (fun i => (i.zero, i.size, i.bytes)) = some (some (.int .u32 0), 1, 4) := by kernel_rfl
set_option maxRecDepth 100000 in
set_option maxHeartbeats 2000000 in
theorem list_u32_rd {S : Nat → Prop} {w : World} {C : Nat} {A : Option Addr} {c : Nat} {s0 : St} (B : List UInt8) (hb : w.heap[C]? = some (rdObj A B.length c s0.1 s0.2)) (hrow : RowAt S w A (bcells B)) (hat : s0.1 ≤ B.length) (hS : ¬ S C) {T o : Nat} (hST : ¬ S T)
    {cs : Array Value} {t : TypeId} (hT : w.heap[T]? = some (.cells cs t (0, 0))) (ho : o < cs.size) (h1 : T ≠ C) (n : Nat) (hn : n ≤ 1000) (fn : Nat) (cp : Value)
    (hen : ∀ (a : Array Value) (W : World), (callFunc fn a).run Try.prog W = .ok (.enter fn a) W)
    (he : ∀ (W : World) (s : St) (X : Nat), Mod (fun b => b = C ∨ b = T) w W → W.heap[C]? = some (rdObj A B.length c s.1 s.2) → s.1 ≤ B.length → RowAt S W A (bcells B) → W.heap[X]? = some (.cells #[.int .u32 0] 26 (0, 0)) → w.heap.size ≤ X →
      Calls Try.prog fn #[.pointer (some ⟨X, 0, none⟩), cp] W fun e W' => e = .returned (.tuple #[]) ∧ W'.heap[C]? = some (rdObj A B.length c (rnum B 4 s).2.1 (rnum B 4 s).2.2) ∧ W'.heap[X]? = some (.cells ([.int .u32 ((rnum B 4 s).1 : Int)]).toArray 26 (0, 0)) ∧ Mod (fun b => b = C ∨ b = X) W W') :
    Calls Try.prog 79 #[.pointer (some ⟨C, 0, none⟩), .int .i64 n, .pointer (some ⟨T, o, none⟩), .func (.func fn) #[] #[cp]] w fun e w' => e = .returned (.tuple #[]) ∧ w'.heap[C]? = some (rdObj A B.length c (rmany (rnum B 4) n s0).2.1 (rmany (rnum B 4) n s0).2.2) ∧
      (∃ v, w'.heap[T]? = some (.cells (cs.setIfInBounds o v) t (0, 0)) ∧ w'.ownsRow w.heap.size 26 1 v (rmany (rnum B 4) n s0).1.length (numCells (rmany (rnum B 4) n s0).1)) ∧ Mod (fun b => b = C ∨ b = T) w w' := by
  obtain ⟨i0, hi, hz0, hz1, hz2⟩ := info_parts infou32
  have c1 := blk_cell hb 1
  simp at c1
  have c2 := blk_cell hT o
  have f2 := blk_free hT o
  rw [Array.getElem?_eq_getElem ho] at c2
  obtain ⟨v0, hv0⟩ : ∃ v0, v0 = cs[o] := ⟨_, rfl⟩
  rw [← hv0] at c2
  have hlC := lt_of_block hb
  have hlT := lt_of_block hT
  have hrow' := hrow.mono (S' := fun b => S b ∧ b < w.heap.size) (fun b hb hs => ⟨hs, hb⟩)
  have hkp : ∀ W, Mod (fun b => b = C ∨ b = T) w W → RowAt S W A (bcells B) := fun W hW => hrow.keeps (hW.keeps (fun b _ hs f => by rcases f with f | f; exact hS (by subst f; exact hs); exact hST (by subst f; exact hs)))
  have H0 := Lib.hid (And.intro hb (And.intro hT (And.intro ho (And.intro hat hkp))))
  have HE := Lib.hid he
  clear hb hrow hrow' hat hT ho he hkp hv0
  go_enter Try.func79, Try.ntmps79
  go_wp2
  go_loopw [8] (fun i wr => ∃ (j : Nat) (acc : List Nat) (s : St) (v : Value), i = .int .i64 j ∧ j ≤ n ∧ acc.length ≤ j ∧ rmany (rnum B 4) n s0 = (acc ++ (rmany (rnum B 4) (n - j) s).1, (rmany (rnum B 4) (n - j) s).2) ∧ s.1 ≤ B.length ∧
    wr.heap[C]? = some (rdObj A B.length c s.1 s.2) ∧ wr.heap[T]? = some (.cells (cs.setIfInBounds o v) t (0, 0)) ∧ wr.ownsRow w.heap.size 26 1 v acc.length (numCells acc) ∧ Mod (fun b => b = C ∨ b = T) w wr) (fun i _ => n - (intOf i).toNat)
  case atStart =>
    refine ⟨0, [], s0, .slice none 0 0, rfl, by omega, by simp, by simp, H0.out.2.2.2.1, ?_, ?_, ⟨rfl, .inl ⟨rfl, rfl⟩⟩, ?_⟩
    · rw [heap_setCell_ne _ _ (fun e => h1 e.symm)]; exact H0.out.1
    · exact heap_setCell_row H0.out.2.1 _
    · exact Mod.setCell (Mod.refl _ _) (.inr (.inr rfl)) _
  case round =>
    obtain ⟨j, acc, s, v, rfl, hj, hacc, hsp, hs8, hbC, hbT, hown, hmw⟩ := hrel
    obtain ⟨at_, sh⟩ := s
    have d3 := blk_cell hbC 3
    simp at d3
    have dT : wr.cell? ⟨T, o, none⟩ = some v := (blk_cell hbT o).trans (by simp [H0.out.2.2.1])
    by_cases hlt : j < n
    · have p1 : (0:Int) ≤ j := by omega
      have p2 : (j:Int) < n := by omega
      cases sh
      · have hmA : Mod No wr (wr.alloc (.cells #[.int .u32 0] 26)) := (Mod.refl _ _).alloc _
        have hmwA : Mod (fun b => b = C ∨ b = T) w (wr.alloc (.cells #[.int .u32 0] 26)) := hmw.alloc _
        have hc := HE.out (wr.alloc (.cells #[.int .u32 0] 26)) (at_, false) wr.heap.size hmwA (hmA.obj hbC id) hs8 (H0.out.2.2.2.2 _ hmwA) (at10 wr _) hmw.size
        have hnx : n - j = (n - (j + 1)) + 1 := by omega
        rw [hnx, rmany_step _ _ rfl] at hsp
        have hwl := hmw.size
        obtain ⟨y, hy⟩ : ∃ y, y = (rnum B 4 (at_, false)).1 := ⟨_, rfl⟩
        obtain ⟨s2, hs2⟩ : ∃ s2, s2 = (rnum B 4 (at_, false)).2 := ⟨_, rfl⟩
        have hs28 : s2.1 ≤ B.length := by rw [hs2]; exact rnum_le B 4 (at_, false) hs8
        rw [← hy, ← hs2] at hc hsp
        have hlb : v.ownBlock ≠ some T := by
          intro e
          rcases hown.2 with ⟨rfl, _⟩ | ⟨g, cap, cur, rfl, hg, _⟩
          · simp [Value.ownBlock] at e
          · obtain rfl : g = T := by simpa [Value.ownBlock] using e
            omega
        have hlC' : v.ownBlock ≠ some C := by
          intro e
          rcases hown.2 with ⟨rfl, _⟩ | ⟨g, cap, cur, rfl, hg, _⟩
          · simp [Value.ownBlock] at e
          · obtain rfl : g = C := by simpa [Value.ownBlock] using e
            omega
        have hlX : v.ownBlock ≠ some wr.heap.size := by
          intro e
          rcases hown.2 with ⟨rfl, _⟩ | ⟨g, cap, cur, rfl, hg, hgg, _⟩
          · simp [Value.ownBlock] at e
          · obtain rfl : g = wr.heap.size := by simpa [Value.ownBlock] using e
            exact Nat.lt_irrefl _ (lt_of_block hgg)
        have HC := Lib.hid hc
        have HR := Lib.hid (And.intro hsp (And.intro hbT (And.intro hown (And.intro hmw (And.intro hs28 hbC)))))
        clear hc hsp hbC hbT hmA hmwA hs8 hy hs2 hown hs28
        go_wp2_with fail
        refine HC.out.mono ?_
        rintro e w5 ⟨rfl, k1, k2, k3⟩
        have g3 := k3.obj ((((Mod.refl No wr).alloc (.cells #[.int .u32 0] 26))).obj HR.out.2.1 id) (by rintro (f | f); exact h1 f; omega)
        have dT5 : w5.cell? ⟨T, o, none⟩ = some v := (blk_cell g3 o).trans (by simp [H0.out.2.2.1])
        have fT5 := blk_free g3 o
        have lT5 : T < w5.heap.size := lt_of_block g3
        have lX5 : wr.heap.size < w5.heap.size := lt_of_block k2
        have lC5 : C < w5.heap.size := lt_of_block k1
        have dX5 : w5.cell? ⟨wr.heap.size, 0, none⟩ = some (.int .u32 (y : Int)) := (blk_cell k2 0).trans rfl
        have hown5 : w5.ownsRow w.heap.size 26 1 v acc.length (numCells acc) := own_mod (own_mod HR.out.2.2.1 ((Mod.refl No wr).alloc (.cells #[.int .u32 0] 26)) (fun _ _ f => f)) k3 (fun k hk f => by rcases f with f | f; exact hlC' (by rw [← f]; exact hk); exact hlX (by rw [← f]; exact hk))
        have hsz5 := k3.size
        have hacc8 : acc.length ≤ 1000 := by omega
        have H5 := Lib.hid (And.intro k1 (And.intro k3 (And.intro g3 (And.intro hown5 (And.intro hsz5 hacc8)))))
        clear k1 k2 k3 g3 hown5 hsz5 hacc8 d3 dT
        go_wp2_with fail
        go_region_law (first
          | (refine step_append_lies _ (by rfl) _ _ 29 (by rfl) w.heap.size 26 i0 _ 1 4 Try.underlying29 hi hz0 hz1 hz2 (by rfl) (by decide) v acc.length (numCells acc) (by rfl) ?_ _ _ _ ((fun (n : Nat) => [Value.int .u32 (n : Int)]) y) (by rfl) (by rfl) ?_ (by simp [Value.oneCell']) (by decide) ?_ ?_ ?_ _ (by rfl) ?_;
             (exact own_mod H5.out.2.2.2.1 (by repeat (first | with_reducible exact Mod.refl _ _ | refine Mod.alloc ?_ _ | refine Mod.drew ?_)) (fun _ _ f => f));
             (exact World.news_of_block (at10 _ _));
             (have := H5.out.2.2.2.2.2; unfold maxLen; omega);
             (have := H5.out.2.2.2.2.2; omega);
             (have := H5.out.2.2.2.2.1; simp at this; simp; omega);
             intro g cap w6 own6 gr6 hat6 hlt6;
             have m6 : Mod (fun b => v.ownBlock = some b) w5 w6 := Mod.grown (((Mod.refl _ w5)).mono (fun _ f => f) |> (fun h => by repeat (first | with_reducible exact h | refine Mod.alloc ?_ _ | refine Mod.drew ?_))) gr6 (fun k hk => .inr hk);
             have fT6 := blk_free (m6.obj H5.out.2.2.1 hlb) o; have dT6 : w6.cell? ⟨T, o, none⟩ = some v := (blk_cell (m6.obj H5.out.2.2.1 hlb) o).trans (by simp [H0.out.2.2.1]); have H6 := Lib.hid (And.intro own6 (And.intro m6 hat6)); clear own6 m6 hat6 gr6))
        all_goals
          go_wp2
          have hT6 := H6.out.2.1.obj H5.out.2.2.1 hlb
          refine ⟨⟨j + 1, acc ++ [y], s2, .slice (some ⟨g, 0, none⟩) (acc.length + 1) cap, by go_num, by omega, ?_, ?_, HR.out.2.2.2.2.1, ?_, ?_, ?_, ?_⟩, by simp [intOf]; omega⟩
          · simp; omega
          · rw [HR.out.1]; simp
          · rw [heap_setCell_ne _ _ (fun e => h1 e.symm)]; exact H6.out.2.1.obj H5.out.1 hlC'
          · rw [heap_setCell_row hT6]; simp
          · refine own_mod (F := fun b => b = T) ?_ (Mod.setCell (p := ⟨T, o, none⟩) (Mod.refl (fun b => b = T) w6) (.inr rfl) _) (fun k hk f => ?_)
            · have := H6.out.1
              simpa [numCells] using this
            · subst f
              obtain rfl : g = k := by simpa [Value.ownBlock] using hk
              rcases H6.out.2.2 with f | f
              · exact hlb f
              · have := H5.out.2.2.2.2.1; simp at f this; omega
          · refine Mod.setCell ?_ (.inr (.inr rfl)) _
            have m5 : Mod (fun b => b = C ∨ b = T) w w5 := (HR.out.2.2.2.1.alloc (.cells #[.int .u32 0] 26)).trans' H5.out.2.1 (fun i hi f => by rcases f with f | f; exact .inl f; omega)
            refine m5.trans' H6.out.2.1 (fun i hi f => ?_)
            rcases HR.out.2.2.1.2 with ⟨rfl, _⟩ | ⟨g', cap', cur', rfl, hg', _⟩
            · simp [Value.ownBlock] at f
            · obtain rfl : g' = i := by simpa [Value.ownBlock] using f
              omega
      · have HR := Lib.hid (And.intro hsp (And.intro hbC (And.intro hbT (And.intro hown hmw))))
        clear hsp hbC hbT hown hmw
        go_wp2
        first | go_end0 | (simp only [Exit.inBlock, Exit.then]; refine bodyPost_ret (results_none rfl _ _ _) rfl ?_) | refine bodyPost_ret (results_none rfl _ _ _) rfl ?_
        obtain ⟨h5, h6, h7, h8, h9⟩ := HR.out
        rw [rmany_short (rnum B 4) (n - j) (s := (at_, true)) rfl] at h5
        rw [h5]
        exact ⟨rfl, h6, ⟨v, h7, by simpa using h8⟩, h9⟩
    · obtain rfl : n = j := by omega
      have HR := Lib.hid (And.intro hsp (And.intro hbC (And.intro hbT (And.intro hown hmw))))
      clear hsp hbC hbT hown hmw
      go_wp2
      first | go_end0 | (simp only [Exit.inBlock, Exit.then]; refine bodyPost_ret (results_none rfl _ _ _) rfl ?_) | refine bodyPost_ret (results_none rfl _ _ _) rfl ?_
      obtain ⟨h5, h6, h7, h8, h9⟩ := HR.out
      rw [Nat.sub_self] at h5
      rw [h5]
      exact ⟨rfl, h6, ⟨v, h7, by simpa [rmany] using h8⟩, h9⟩
theorem infopr : (Try.prog.info? 116).map (fun i => (i.zero, i.size, i.bytes)) = some (some (.agg #[.int .u32 0, .int .u32 0]), 2, 8) := by kernel_rfl
set_option maxRecDepth 100000 in
set_option maxHeartbeats 2000000 in
theorem list_pr_rd {S : Nat → Prop} {w : World} {C : Nat} {A : Option Addr} {c : Nat} {s0 : St} (B : List UInt8) (hb : w.heap[C]? = some (rdObj A B.length c s0.1 s0.2)) (hrow : RowAt S w A (bcells B)) (hat : s0.1 ≤ B.length) (hS : ¬ S C) {T o : Nat} (hST : ¬ S T)
    {cs : Array Value} {t : TypeId} (hT : w.heap[T]? = some (.cells cs t (0, 0))) (ho : o < cs.size) (h1 : T ≠ C) (n : Nat) (hn : n ≤ 1000) (fn : Nat) (cp : Value)
    (hen : ∀ (a : Array Value) (W : World), (callFunc fn a).run Try.prog W = .ok (.enter fn a) W)
    (he : ∀ (W : World) (s : St) (X : Nat), Mod (fun b => b = C ∨ b = T) w W → W.heap[C]? = some (rdObj A B.length c s.1 s.2) → s.1 ≤ B.length → RowAt S W A (bcells B) → W.heap[X]? = some (.cells #[.int .u32 0, .int .u32 0] 116 (0, 0)) → w.heap.size ≤ X →
      Calls Try.prog fn #[.pointer (some ⟨X, 0, none⟩), cp] W fun e W' => e = .returned (.tuple #[]) ∧ W'.heap[C]? = some (rdObj A B.length c (rpr B s).2.1 (rpr B s).2.2) ∧ W'.heap[X]? = some (.cells ((rpr B s).1.cells).toArray 116 (0, 0)) ∧ Mod (fun b => b = C ∨ b = X) W W') :
    Calls Try.prog 82 #[.pointer (some ⟨C, 0, none⟩), .int .i64 n, .pointer (some ⟨T, o, none⟩), .func (.func fn) #[] #[cp]] w fun e w' => e = .returned (.tuple #[]) ∧ w'.heap[C]? = some (rdObj A B.length c (rmany (rpr B) n s0).2.1 (rmany (rpr B) n s0).2.2) ∧
      (∃ v, w'.heap[T]? = some (.cells (cs.setIfInBounds o v) t (0, 0)) ∧ w'.ownsRow w.heap.size 116 2 v (rmany (rpr B) n s0).1.length (prCells (rmany (rpr B) n s0).1)) ∧ Mod (fun b => b = C ∨ b = T) w w' := by
  obtain ⟨i0, hi, hz0, hz1, hz2⟩ := info_parts infopr
  have c1 := blk_cell hb 1
  simp at c1
  have c2 := blk_cell hT o
  have f2 := blk_free hT o
  rw [Array.getElem?_eq_getElem ho] at c2
  obtain ⟨v0, hv0⟩ : ∃ v0, v0 = cs[o] := ⟨_, rfl⟩
  rw [← hv0] at c2
  have hlC := lt_of_block hb
  have hlT := lt_of_block hT
  have hrow' := hrow.mono (S' := fun b => S b ∧ b < w.heap.size) (fun b hb hs => ⟨hs, hb⟩)
  have hkp : ∀ W, Mod (fun b => b = C ∨ b = T) w W → RowAt S W A (bcells B) := fun W hW => hrow.keeps (hW.keeps (fun b _ hs f => by rcases f with f | f; exact hS (by subst f; exact hs); exact hST (by subst f; exact hs)))
  have H0 := Lib.hid (And.intro hb (And.intro hT (And.intro ho (And.intro hat hkp))))
  have HE := Lib.hid he
  clear hb hrow hrow' hat hT ho he hkp hv0
  go_enter Try.func82, Try.ntmps82
  go_wp2
  go_loopw [8] (fun i wr => ∃ (j : Nat) (acc : List Pr) (s : St) (v : Value), i = .int .i64 j ∧ j ≤ n ∧ acc.length ≤ j ∧ rmany (rpr B) n s0 = (acc ++ (rmany (rpr B) (n - j) s).1, (rmany (rpr B) (n - j) s).2) ∧ s.1 ≤ B.length ∧
    wr.heap[C]? = some (rdObj A B.length c s.1 s.2) ∧ wr.heap[T]? = some (.cells (cs.setIfInBounds o v) t (0, 0)) ∧ wr.ownsRow w.heap.size 116 2 v acc.length (prCells acc) ∧ Mod (fun b => b = C ∨ b = T) w wr) (fun i _ => n - (intOf i).toNat)
  case atStart =>
    refine ⟨0, [], s0, .slice none 0 0, rfl, by omega, by simp, by simp, H0.out.2.2.2.1, ?_, ?_, ⟨rfl, .inl ⟨rfl, rfl⟩⟩, ?_⟩
    · rw [heap_setCell_ne _ _ (fun e => h1 e.symm)]; exact H0.out.1
    · exact heap_setCell_row H0.out.2.1 _
    · exact Mod.setCell (Mod.refl _ _) (.inr (.inr rfl)) _
  case round =>
    obtain ⟨j, acc, s, v, rfl, hj, hacc, hsp, hs8, hbC, hbT, hown, hmw⟩ := hrel
    obtain ⟨at_, sh⟩ := s
    have d3 := blk_cell hbC 3
    simp at d3
    have dT : wr.cell? ⟨T, o, none⟩ = some v := (blk_cell hbT o).trans (by simp [H0.out.2.2.1])
    by_cases hlt : j < n
    · have p1 : (0:Int) ≤ j := by omega
      have p2 : (j:Int) < n := by omega
      cases sh
      · have hmA : Mod No wr (wr.alloc (.cells #[.int .u32 0, .int .u32 0] 116)) := (Mod.refl _ _).alloc _
        have hmwA : Mod (fun b => b = C ∨ b = T) w (wr.alloc (.cells #[.int .u32 0, .int .u32 0] 116)) := hmw.alloc _
        have hc := HE.out (wr.alloc (.cells #[.int .u32 0, .int .u32 0] 116)) (at_, false) wr.heap.size hmwA (hmA.obj hbC id) hs8 (H0.out.2.2.2.2 _ hmwA) (at10 wr _) hmw.size
        have hnx : n - j = (n - (j + 1)) + 1 := by omega
        rw [hnx, rmany_step _ _ rfl] at hsp
        have hwl := hmw.size
        obtain ⟨y, hy⟩ : ∃ y, y = (rpr B (at_, false)).1 := ⟨_, rfl⟩
        obtain ⟨s2, hs2⟩ : ∃ s2, s2 = (rpr B (at_, false)).2 := ⟨_, rfl⟩
        have hs28 : s2.1 ≤ B.length := by rw [hs2]; exact rpr_le B (at_, false) hs8
        rw [← hy, ← hs2] at hc hsp
        have hlb : v.ownBlock ≠ some T := by
          intro e
          rcases hown.2 with ⟨rfl, _⟩ | ⟨g, cap, cur, rfl, hg, _⟩
          · simp [Value.ownBlock] at e
          · obtain rfl : g = T := by simpa [Value.ownBlock] using e
            omega
        have hlC' : v.ownBlock ≠ some C := by
          intro e
          rcases hown.2 with ⟨rfl, _⟩ | ⟨g, cap, cur, rfl, hg, _⟩
          · simp [Value.ownBlock] at e
          · obtain rfl : g = C := by simpa [Value.ownBlock] using e
            omega
        have hlX : v.ownBlock ≠ some wr.heap.size := by
          intro e
          rcases hown.2 with ⟨rfl, _⟩ | ⟨g, cap, cur, rfl, hg, hgg, _⟩
          · simp [Value.ownBlock] at e
          · obtain rfl : g = wr.heap.size := by simpa [Value.ownBlock] using e
            exact Nat.lt_irrefl _ (lt_of_block hgg)
        have HC := Lib.hid hc
        have HR := Lib.hid (And.intro hsp (And.intro hbT (And.intro hown (And.intro hmw (And.intro hs28 hbC)))))
        clear hc hsp hbC hbT hmA hmwA hs8 hy hs2 hown hs28
        go_wp2_with fail
        refine HC.out.mono ?_
        rintro e w5 ⟨rfl, k1, k2, k3⟩
        have g3 := k3.obj ((((Mod.refl No wr).alloc (.cells #[.int .u32 0, .int .u32 0] 116))).obj HR.out.2.1 id) (by rintro (f | f); exact h1 f; omega)
        have dT5 : w5.cell? ⟨T, o, none⟩ = some v := (blk_cell g3 o).trans (by simp [H0.out.2.2.1])
        have fT5 := blk_free g3 o
        have lT5 : T < w5.heap.size := lt_of_block g3
        have lX5 : wr.heap.size < w5.heap.size := lt_of_block k2
        have lC5 : C < w5.heap.size := lt_of_block k1
        have dX5 : w5.cell? ⟨wr.heap.size, 0, none⟩ = some (.int .u32 (y.a : Int)) := (blk_cell k2 0).trans rfl
        have dX6 : w5.cell? ⟨wr.heap.size, 1, none⟩ = some (.int .u32 (y.b : Int)) := (blk_cell k2 1).trans rfl
        have hown5 : w5.ownsRow w.heap.size 116 2 v acc.length (prCells acc) := own_mod (own_mod HR.out.2.2.1 ((Mod.refl No wr).alloc (.cells #[.int .u32 0, .int .u32 0] 116)) (fun _ _ f => f)) k3 (fun k hk f => by rcases f with f | f; exact hlC' (by rw [← f]; exact hk); exact hlX (by rw [← f]; exact hk))
        have hsz5 := k3.size
        have hacc8 : acc.length ≤ 1000 := by omega
        have H5 := Lib.hid (And.intro k1 (And.intro k3 (And.intro g3 (And.intro hown5 (And.intro hsz5 hacc8)))))
        clear k1 k2 k3 g3 hown5 hsz5 hacc8 d3 dT
        go_wp2_with fail
        go_region_law (first
          | (refine step_append_lies _ (by rfl) _ _ 31 (by rfl) w.heap.size 116 i0 _ 2 8 Try.underlying31 hi hz0 hz1 hz2 (by rfl) (by decide) v acc.length (prCells acc) (by rfl) ?_ _ _ _ (Pr.cells y) (by rfl) (by rfl) ?_ (by simp [Pr.cells, Value.oneCell']) (by decide) ?_ ?_ ?_ _ (by rfl) ?_;
             (exact own_mod H5.out.2.2.2.1 (by repeat (first | with_reducible exact Mod.refl _ _ | refine Mod.alloc ?_ _ | refine Mod.drew ?_)) (fun _ _ f => f));
             (exact World.news_of_block (at10 _ _));
             (have := H5.out.2.2.2.2.2; unfold maxLen; omega);
             (have := H5.out.2.2.2.2.2; omega);
             (have := H5.out.2.2.2.2.1; simp at this; simp; omega);
             intro g cap w6 own6 gr6 hat6 hlt6;
             have m6 : Mod (fun b => v.ownBlock = some b) w5 w6 := Mod.grown (((Mod.refl _ w5)).mono (fun _ f => f) |> (fun h => by repeat (first | with_reducible exact h | refine Mod.alloc ?_ _ | refine Mod.drew ?_))) gr6 (fun k hk => .inr hk);
             have fT6 := blk_free (m6.obj H5.out.2.2.1 hlb) o; have dT6 : w6.cell? ⟨T, o, none⟩ = some v := (blk_cell (m6.obj H5.out.2.2.1 hlb) o).trans (by simp [H0.out.2.2.1]); have H6 := Lib.hid (And.intro own6 (And.intro m6 hat6)); clear own6 m6 hat6 gr6))
        all_goals
          go_wp2
          have hT6 := H6.out.2.1.obj H5.out.2.2.1 hlb
          refine ⟨⟨j + 1, acc ++ [y], s2, .slice (some ⟨g, 0, none⟩) (acc.length + 1) cap, by go_num, by omega, ?_, ?_, HR.out.2.2.2.2.1, ?_, ?_, ?_, ?_⟩, by simp [intOf]; omega⟩
          · simp; omega
          · rw [HR.out.1]; simp
          · rw [heap_setCell_ne _ _ (fun e => h1 e.symm)]; exact H6.out.2.1.obj H5.out.1 hlC'
          · rw [heap_setCell_row hT6]; simp
          · refine own_mod (F := fun b => b = T) ?_ (Mod.setCell (p := ⟨T, o, none⟩) (Mod.refl (fun b => b = T) w6) (.inr rfl) _) (fun k hk f => ?_)
            · have := H6.out.1
              simpa [prCells] using this
            · subst f
              obtain rfl : g = k := by simpa [Value.ownBlock] using hk
              rcases H6.out.2.2 with f | f
              · exact hlb f
              · have := H5.out.2.2.2.2.1; simp at f this; omega
          · refine Mod.setCell ?_ (.inr (.inr rfl)) _
            have m5 : Mod (fun b => b = C ∨ b = T) w w5 := (HR.out.2.2.2.1.alloc (.cells #[.int .u32 0, .int .u32 0] 116)).trans' H5.out.2.1 (fun i hi f => by rcases f with f | f; exact .inl f; omega)
            refine m5.trans' H6.out.2.1 (fun i hi f => ?_)
            rcases HR.out.2.2.1.2 with ⟨rfl, _⟩ | ⟨g', cap', cur', rfl, hg', _⟩
            · simp [Value.ownBlock] at f
            · obtain rfl : g' = i := by simpa [Value.ownBlock] using f
              omega
      · have HR := Lib.hid (And.intro hsp (And.intro hbC (And.intro hbT (And.intro hown hmw))))
        clear hsp hbC hbT hown hmw
        go_wp2
        first | go_end0 | (simp only [Exit.inBlock, Exit.then]; refine bodyPost_ret (results_none rfl _ _ _) rfl ?_) | refine bodyPost_ret (results_none rfl _ _ _) rfl ?_
        obtain ⟨h5, h6, h7, h8, h9⟩ := HR.out
        rw [rmany_short (rpr B) (n - j) (s := (at_, true)) rfl] at h5
        rw [h5]
        exact ⟨rfl, h6, ⟨v, h7, by simpa using h8⟩, h9⟩
    · obtain rfl : n = j := by omega
      have HR := Lib.hid (And.intro hsp (And.intro hbC (And.intro hbT (And.intro hown hmw))))
      clear hsp hbC hbT hown hmw
      go_wp2
      first | go_end0 | (simp only [Exit.inBlock, Exit.then]; refine bodyPost_ret (results_none rfl _ _ _) rfl ?_) | refine bodyPost_ret (results_none rfl _ _ _) rfl ?_
      obtain ⟨h5, h6, h7, h8, h9⟩ := HR.out
      rw [Nat.sub_self] at h5
      rw [h5]
      exact ⟨rfl, h6, ⟨v, h7, by simpa [rmany] using h8⟩, h9⟩
end

section
attribute [local go_sem] stPair gtPair gtK8 gtM6 run_store_func
attribute [local go_sem high] neqPair eqK8 eqM6
open Go.RowKit
set_option linter.unusedVariables false
def M6.of (l : List UInt8) : M6 := ⟨l.getD 0 0, l.getD 1 0, l.getD 2 0, l.getD 3 0, l.getD 4 0, l.getD 5 0⟩
def K8.of (l : List UInt8) : K8 := ⟨l.getD 0 0, l.getD 1 0, l.getD 2 0, l.getD 3 0, l.getD 4 0, l.getD 5 0, l.getD 6 0, l.getD 7 0⟩
/-- A tenant that is being read: its fields so far, the three counts, the reader's state. -/
structure RS where
  t : Ten
  np : Nat
  ns : Nat
  nt : Nat
  s : St
def rsteps (B : List UInt8) : List (RS → RS) := [
  fun r => { r with t := { r.t with name := (rname B r.s).1 }, s := (rname B r.s).2 },
  fun r => { r with t := { r.t with vni := (rnum B 4 r.s).1 }, s := (rnum B 4 r.s).2 },
  fun r => { r with t := { r.t with key := K8.of (rtake B r.s 8).1 }, s := (rtake B r.s 8).2 },
  fun r => { r with t := { r.t with vtep := (rnum B 4 r.s).1 }, s := (rnum B 4 r.s).2 },
  fun r => { r with t := { r.t with vmac := M6.of (rtake B r.s 6).1 }, s := (rtake B r.s 6).2 },
  fun r => { r with t := { r.t with host := M6.of (rtake B r.s 6).1 }, s := (rtake B r.s 6).2 },
  fun r => { r with t := { r.t with lo := (rnum B 2 r.s).1 }, s := (rnum B 2 r.s).2 },
  fun r => { r with t := { r.t with hi := (rnum B 2 r.s).1 }, s := (rnum B 2 r.s).2 },
  fun r => { r with t := { r.t with filter := (rnum B 1 r.s).1 }, s := (rnum B 1 r.s).2 },
  fun r => { r with t := { r.t with sess := (rnum B 2 r.s).1 }, s := (rnum B 2 r.s).2 },
  fun r => { r with t := { r.t with queue := (rnum B 2 r.s).1 }, s := (rnum B 2 r.s).2 },
  fun r => { r with t := { r.t with rate := (rnum B 4 r.s).1 }, s := (rnum B 4 r.s).2 },
  fun r => { r with t := { r.t with burst := (rnum B 4 r.s).1 }, s := (rnum B 4 r.s).2 },
  fun r => { r with np := (rnum B 1 r.s).1, s := (rnum B 1 r.s).2 },
  fun r => { r with ns := (rnum B 1 r.s).1, s := (rnum B 1 r.s).2 },
  fun r => { r with nt := (rnum B 1 r.s).1, s := (rnum B 1 r.s).2 },
  fun r => { r with t := { r.t with pool := (rmany (rnum B 4) r.np r.s).1 }, s := (rmany (rnum B 4) r.np r.s).2 },
  fun r => { r with t := { r.t with statics := (rmany (rpr B) r.ns r.s).1 }, s := (rmany (rpr B) r.ns r.s).2 },
  fun r => { r with t := { r.t with twices := (rmany (rpr B) r.nt r.s).1 }, s := (rmany (rpr B) r.nt r.s).2 }]
def rk (B : List UInt8) (s : St) (k : Nat) : RS := ((rsteps B).take k).foldl (fun r f => f r) ⟨.zero, 0, 0, 0, s⟩
def rten (B : List UInt8) (s : St) : Ten × St := ((rk B s 19).t, (rk B s 19).s)
end

section
attribute [local go_sem] stPair gtPair gtK8 gtM6 run_store_func
attribute [local go_sem high] neqPair eqK8 eqM6
open Go.RowKit
set_option linter.unusedVariables false
set_option maxRecDepth 100000 in
theorem each_u32_rd {S : Nat → Prop} {w : World} {C : Nat} {A : Option Addr} {c : Nat} {s0 : St} (B : List UInt8) (hb : w.heap[C]? = some (rdObj A B.length c s0.1 s0.2)) (hrow : RowAt S w A (bcells B)) (hat : s0.1 ≤ B.length) (hc : B.length ≤ c) (hB : B.length ≤ 100000000) (hS : ¬ S C) {bc X : Nat} (hbc : w.heap[bc]? = some (.cells #[.pointer (some ⟨C, 0, none⟩)] 98 (0, 0))) (hX : w.heap[X]? = some (.cells #[.int .u32 0] 26 (0, 0))) (hXC : X ≠ C) :
    Calls Try.prog 80 #[.pointer (some ⟨X, 0, none⟩), .pointer (some ⟨bc, 0, none⟩)] w fun e w' => e = .returned (.tuple #[]) ∧ w'.heap[C]? = some (rdObj A B.length c (rnum B 4 s0).2.1 (rnum B 4 s0).2.2) ∧ w'.heap[X]? = some (.cells [Value.int .u32 ((rnum B 4 s0).1 : Int)].toArray 26 (0, 0)) ∧ Mod (fun b => b = C ∨ b = X) w w' := by
  have HD := Lib.hid (num_u32_rd B hb hrow hat hc hB 4 (by decide) hS (T := X) (o := 0) hX (by decide) hXC)
  have c0 := blk_cell hbc 0
  simp at c0
  clear hb hrow hat hc hB hS hbc hX hXC
  go_enter Try.func80, Try.ntmps80
  go_wp2_with (first | (go_at_call 57; refine HD.out.mono ?_; rintro e w1 ⟨rfl, hr⟩; have HW := Lib.hid hr; clear hr) | fail)
  go_end0
  exact ⟨rfl, HW.out.1, by simpa [rnum] using HW.out.2.1, HW.out.2.2⟩
set_option maxRecDepth 100000 in
theorem each_pr_rd {S : Nat → Prop} {w : World} {C : Nat} {A : Option Addr} {c : Nat} {s0 : St} (B : List UInt8) (hb : w.heap[C]? = some (rdObj A B.length c s0.1 s0.2)) (hrow : RowAt S w A (bcells B)) (hat : s0.1 ≤ B.length) (hc : B.length ≤ c) (hB : B.length ≤ 100000000) (hS : ¬ S C) {bc X : Nat} (hbc : w.heap[bc]? = some (.cells #[.pointer (some ⟨C, 0, none⟩)] 98 (0, 0))) (hX : w.heap[X]? = some (.cells #[.int .u32 0, .int .u32 0] 116 (0, 0))) (hXC : X ≠ C) (hbC : bc ≠ C) (hSX : ¬ S X) (hbX : bc ≠ X) :
    Calls Try.prog 56 #[.pointer (some ⟨X, 0, none⟩), .pointer (some ⟨bc, 0, none⟩)] w fun e w' => e = .returned (.tuple #[]) ∧ w'.heap[C]? = some (rdObj A B.length c (rpr B s0).2.1 (rpr B s0).2.2) ∧ w'.heap[X]? = some (.cells (rpr B s0).1.cells.toArray 116 (0, 0)) ∧ Mod (fun b => b = C ∨ b = X) w w' := by
  have hd1 : ∀ W1, W1 = w.drew → Calls Try.prog 57 #[.pointer (some ⟨C, 0, none⟩), .int .i64 4, .pointer (some ⟨X, 0, none⟩)] W1 fun e w' => e = .returned (.tuple #[]) ∧ w'.cell? ⟨bc, 0, none⟩ = some (.pointer (some ⟨C, 0, none⟩)) ∧
      ∀ W2, W2 = w'.drew → Calls Try.prog 57 #[.pointer (some ⟨C, 0, none⟩), .int .i64 4, .pointer (some ⟨X, 1, none⟩)] W2 fun e w'' => e = .returned (.tuple #[]) ∧ w''.heap[C]? = some (rdObj A B.length c (rpr B s0).2.1 (rpr B s0).2.2) ∧ w''.heap[X]? = some (.cells (rpr B s0).1.cells.toArray 116 (0, 0)) ∧ Mod (fun b => b = C ∨ b = X) w w'' := by
    intro W1 hW1
    subst hW1
    have hkd : Keeps S w w.drew := Mod.keeps (Mod.drew (Mod.refl No w)) (fun _ _ _ f => f)
    refine (num_u32_rd (w := w.drew) B hb (hrow.keeps hkd) hat hc hB 4 (by decide) hS (T := X) (o := 0) hX (by decide) hXC).mono fun e w' ⟨he, a1, a2, a3⟩ => ?_
    have m1 : Mod (fun b => b = C ∨ b = X) w w' := (Mod.refl _ w).drew.trans a3
    refine ⟨he, (blk_cell (m1.obj hbc (by rintro (f | f); exact hbC f; exact hbX f)) 0).trans rfl, fun W2 hW2 => ?_⟩
    subst hW2
    have hr2 : RowAt S w'.drew A (bcells B) := hrow.keeps ((m1.drew).keeps (fun b _ hs f => by rcases f with f | f; exact hS (by subst f; exact hs); exact hSX (by subst f; exact hs)))
    refine (num_u32_rd (w := w'.drew) B a1 hr2 (rtake_le B _ 4 hat) hc hB 4 (by decide) hS (T := X) (o := 1) a2 (by simp) hXC).mono fun e w'' ⟨he, b1, b2, b3⟩ => ⟨he, b1, ?_, (m1.drew).trans b3⟩
    rw [b2]
    simp [rpr, rnum, Pr.cells]
  have c0 := blk_cell hbc 0
  simp at c0
  have HD := Lib.hid hd1
  obtain ⟨R, hR⟩ : ∃ R : World → Prop, R = fun w'' => w''.heap[C]? = some (rdObj A B.length c (rpr B s0).2.1 (rpr B s0).2.2) ∧ w''.heap[X]? = some (.cells (rpr B s0).1.cells.toArray 116 (0, 0)) ∧ Mod (fun b => b = C ∨ b = X) w w'' := ⟨_, rfl⟩
  have hd2 : ∀ W1, W1 = w.drew → Calls Try.prog 57 #[.pointer (some ⟨C, 0, none⟩), .int .i64 4, .pointer (some ⟨X, 0, none⟩)] W1 fun e w' => e = .returned (.tuple #[]) ∧ w'.cell? ⟨bc, 0, none⟩ = some (.pointer (some ⟨C, 0, none⟩)) ∧
      ∀ W2, W2 = w'.drew → Calls Try.prog 57 #[.pointer (some ⟨C, 0, none⟩), .int .i64 4, .pointer (some ⟨X, 1, none⟩)] W2 fun e w'' => e = .returned (.tuple #[]) ∧ R w'' := by rw [hR]; exact hd1
  suffices hs : Calls Try.prog 56 #[.pointer (some ⟨X, 0, none⟩), .pointer (some ⟨bc, 0, none⟩)] w fun e w' => e = .returned (.tuple #[]) ∧ R w' by
    rw [hR] at hs; exact hs
  have HD := Lib.hid hd2
  clear hb hrow hat hc hB hS hbc hX hXC hbC hSX hbX hd1 hd2 hR
  go_enter Try.func56, Try.ntmps56
  go_wp2_with fail
  go_region_law (first | (go_simp; go_at_call 57; refine (HD.out _ rfl).mono ?_; rintro e w1 ⟨rfl, d0, hr⟩; have H2 := Lib.hid hr; clear hr))
  all_goals
    go_wp2_with fail
    go_region_law (first | (go_simp; go_at_call 57; refine (H2.out _ rfl).mono ?_; rintro e w2 ⟨rfl, hr⟩; have HW := Lib.hid hr; clear hr))
  all_goals
    go_wp2
    first | go_end0 | (simp only [Exit.inBlock, Exit.then]; refine bodyPost_ret (results_none rfl _ _ _) rfl ?_) | refine bodyPost_ret (results_none rfl _ _ _) rfl ?_
    exact ⟨rfl, HW.out⟩
set_option maxRecDepth 100000 in
theorem ten_lpool_rd {S : Nat → Prop} {w : World} {C : Nat} {A : Option Addr} {c : Nat} {s0 : St} (B : List UInt8) (hb : w.heap[C]? = some (rdObj A B.length c s0.1 s0.2)) (hrow : RowAt S w A (bcells B)) (hat : s0.1 ≤ B.length) (hc : B.length ≤ c) (hB : B.length ≤ 100000000) (hS : ¬ S C) {bc bt bp T o n : Nat} (hST : ¬ S T) (hx : Boxes w bc bt C T o) (hbC : bc ≠ C) (hbT : bc ≠ T) (hn : n ≤ 1000) (hSn : ∀ b, S b → b < w.heap.size) (hp : w.heap[bp]? = some (.cells #[.int .i64 (n : Int)] 3 (0, 0)))
    {cs : Array Value} {t : TypeId} (hT : w.heap[T]? = some (.cells cs t (0, 0))) (ho : o + 23 < cs.size) (h1 : T ≠ C) :
    Calls Try.prog 78 #[.pointer (some ⟨bc, 0, none⟩), .pointer (some ⟨bp, 0, none⟩), .pointer (some ⟨bt, 0, none⟩)] w fun e w' => e = .returned (.tuple #[]) ∧ w'.heap[C]? = some (rdObj A B.length c (rmany (rnum B 4) n s0).2.1 (rmany (rnum B 4) n s0).2.2) ∧
      (∃ v, w'.heap[T]? = some (.cells (cs.setIfInBounds (o + 23) v) t (0, 0)) ∧ w'.ownsRow w.heap.size 26 1 v (rmany (rnum B 4) n s0).1.length (numCells (rmany (rnum B 4) n s0).1)) ∧ Mod (fun b => b = C ∨ b = T) w w' := by
  obtain ⟨R, hR⟩ : ∃ R : World → Prop, R = fun w' => w'.heap[C]? = some (rdObj A B.length c (rmany (rnum B 4) n s0).2.1 (rmany (rnum B 4) n s0).2.2) ∧
      (∃ v, w'.heap[T]? = some (.cells (cs.setIfInBounds (o + 23) v) t (0, 0)) ∧ w'.ownsRow w.heap.size 26 1 v (rmany (rnum B 4) n s0).1.length (numCells (rmany (rnum B 4) n s0).1)) ∧ Mod (fun b => b = C ∨ b = T) w w' := ⟨_, rfl⟩
  have hd : ∀ W, W = w.drew → Calls Try.prog 79 #[.pointer (some ⟨C, 0, none⟩), .int .i64 n, .pointer (some ⟨T, o + 23, none⟩), .func (.func 80) #[] #[.pointer (some ⟨bc, 0, none⟩)]] W fun e w' => e = .returned (.tuple #[]) ∧ R w' := by
    intro W hW
    subst hW
    rw [hR]
    refine (list_u32_rd (w := w.drew) (S := S) B hb (hrow.keeps (Mod.keeps (Mod.drew (Mod.refl No w)) (fun _ _ _ f => f))) hat hS (T := T) (o := o + 23) hST hT ho h1 n hn 80 (.pointer (some ⟨bc, 0, none⟩)) (fun a W => by go_simp)
      (fun W s X hm hC hs hr hX hXs => ?_)).mono fun e w' ⟨e1, e2, e3, e4⟩ => ⟨e1, e2, e3, (Mod.refl _ w).drew.trans e4⟩
    have hXs' : w.heap.size ≤ X := hXs
    have hlC := lt_of_block hb
    have hbcW := hm.obj (w := w.drew) hx.c (by rintro (f | f); exact hbC f; exact hbT f)
    have hlb := lt_of_block hx.c
    exact each_u32_rd B hC hr hs hc hB hS hbcW hX (by omega)
  have c0 := blk_cell hx.c 0
  have c1 := blk_cell hx.t 0
  have c2 := blk_cell hp 0
  simp at c0 c1 c2
  suffices hs : Calls Try.prog 78 #[.pointer (some ⟨bc, 0, none⟩), .pointer (some ⟨bp, 0, none⟩), .pointer (some ⟨bt, 0, none⟩)] w fun e w' => e = .returned (.tuple #[]) ∧ R w' by
    rw [hR] at hs; exact hs
  have HD := Lib.hid hd
  clear hb hrow hat hc hB hS hx hT ho hd hR hp hbC hbT hn h1 hST hSn
  go_enter Try.func78, Try.ntmps78
  go_wp2_with fail
  go_region_law (first | (go_simp; go_at_call 79; refine (HD.out _ rfl).mono ?_; rintro e w1 ⟨rfl, hr⟩; have HW := Lib.hid hr; clear hr))
  all_goals
    go_wp2
    first | go_end0 | (simp only [Exit.inBlock, Exit.then]; refine bodyPost_ret (results_none rfl _ _ _) rfl ?_) | refine bodyPost_ret (results_none rfl _ _ _) rfl ?_
    exact ⟨rfl, HW.out⟩
set_option maxRecDepth 100000 in
theorem ten_lstatics_rd {S : Nat → Prop} {w : World} {C : Nat} {A : Option Addr} {c : Nat} {s0 : St} (B : List UInt8) (hb : w.heap[C]? = some (rdObj A B.length c s0.1 s0.2)) (hrow : RowAt S w A (bcells B)) (hat : s0.1 ≤ B.length) (hc : B.length ≤ c) (hB : B.length ≤ 100000000) (hS : ¬ S C) {bc bt bp bq T o n : Nat} (hST : ¬ S T) (hx : Boxes w bc bt C T o) (hbC : bc ≠ C) (hbT : bc ≠ T) (hn : n ≤ 1000) (hSn : ∀ b, S b → b < w.heap.size) (hp : w.heap[bp]? = some (.cells #[.int .i64 (n : Int)] 3 (0, 0))) (hq : w.heap[bq]? = some (.cells #[.func (.func 56) #[] #[.pointer (some ⟨bc, 0, none⟩)]] 117 (0, 0)))
    {cs : Array Value} {t : TypeId} (hT : w.heap[T]? = some (.cells cs t (0, 0))) (ho : o + 27 < cs.size) (h1 : T ≠ C) :
    Calls Try.prog 81 #[.pointer (some ⟨bc, 0, none⟩), .pointer (some ⟨bp, 0, none⟩), .pointer (some ⟨bt, 0, none⟩), .pointer (some ⟨bq, 0, none⟩)] w fun e w' => e = .returned (.tuple #[]) ∧ w'.heap[C]? = some (rdObj A B.length c (rmany (rpr B) n s0).2.1 (rmany (rpr B) n s0).2.2) ∧
      (∃ v, w'.heap[T]? = some (.cells (cs.setIfInBounds (o + 27) v) t (0, 0)) ∧ w'.ownsRow w.heap.size 116 2 v (rmany (rpr B) n s0).1.length (prCells (rmany (rpr B) n s0).1)) ∧ Mod (fun b => b = C ∨ b = T) w w' := by
  obtain ⟨R, hR⟩ : ∃ R : World → Prop, R = fun w' => w'.heap[C]? = some (rdObj A B.length c (rmany (rpr B) n s0).2.1 (rmany (rpr B) n s0).2.2) ∧
      (∃ v, w'.heap[T]? = some (.cells (cs.setIfInBounds (o + 27) v) t (0, 0)) ∧ w'.ownsRow w.heap.size 116 2 v (rmany (rpr B) n s0).1.length (prCells (rmany (rpr B) n s0).1)) ∧ Mod (fun b => b = C ∨ b = T) w w' := ⟨_, rfl⟩
  have hd : ∀ W, W = w.drew → Calls Try.prog 82 #[.pointer (some ⟨C, 0, none⟩), .int .i64 n, .pointer (some ⟨T, o + 27, none⟩), .func (.func 56) #[] #[.pointer (some ⟨bc, 0, none⟩)]] W fun e w' => e = .returned (.tuple #[]) ∧ R w' := by
    intro W hW
    subst hW
    rw [hR]
    refine (list_pr_rd (w := w.drew) (S := S) B hb (hrow.keeps (Mod.keeps (Mod.drew (Mod.refl No w)) (fun _ _ _ f => f))) hat hS (T := T) (o := o + 27) hST hT ho h1 n hn 56 (.pointer (some ⟨bc, 0, none⟩)) (fun a W => by go_simp)
      (fun W s X hm hC hs hr hX hXs => ?_)).mono fun e w' ⟨e1, e2, e3, e4⟩ => ⟨e1, e2, e3, (Mod.refl _ w).drew.trans e4⟩
    have hXs' : w.heap.size ≤ X := hXs
    have hlC := lt_of_block hb
    have hbcW := hm.obj (w := w.drew) hx.c (by rintro (f | f); exact hbC f; exact hbT f)
    have hlb := lt_of_block hx.c
    exact each_pr_rd B hC hr hs hc hB hS hbcW hX (by omega) hbC (fun f => by have := hSn X f; omega) (by omega)
  have c0 := blk_cell hx.c 0
  have c1 := blk_cell hx.t 0
  have c2 := blk_cell hp 0
  have c3 := blk_cell hq 0
  simp at c0 c1 c2 c3
  suffices hs : Calls Try.prog 81 #[.pointer (some ⟨bc, 0, none⟩), .pointer (some ⟨bp, 0, none⟩), .pointer (some ⟨bt, 0, none⟩), .pointer (some ⟨bq, 0, none⟩)] w fun e w' => e = .returned (.tuple #[]) ∧ R w' by
    rw [hR] at hs; exact hs
  have HD := Lib.hid hd
  clear hb hrow hat hc hB hS hx hT ho hd hR hp hbC hbT hn h1 hST hSn hq
  go_enter Try.func81, Try.ntmps81
  go_wp2_with fail
  go_region_law (first | (go_simp; go_at_call 82; refine (HD.out _ rfl).mono ?_; rintro e w1 ⟨rfl, hr⟩; have HW := Lib.hid hr; clear hr))
  all_goals
    go_wp2
    first | go_end0 | (simp only [Exit.inBlock, Exit.then]; refine bodyPost_ret (results_none rfl _ _ _) rfl ?_) | refine bodyPost_ret (results_none rfl _ _ _) rfl ?_
    exact ⟨rfl, HW.out⟩
set_option maxRecDepth 100000 in
theorem ten_ltwices_rd {S : Nat → Prop} {w : World} {C : Nat} {A : Option Addr} {c : Nat} {s0 : St} (B : List UInt8) (hb : w.heap[C]? = some (rdObj A B.length c s0.1 s0.2)) (hrow : RowAt S w A (bcells B)) (hat : s0.1 ≤ B.length) (hc : B.length ≤ c) (hB : B.length ≤ 100000000) (hS : ¬ S C) {bc bt bp bq T o n : Nat} (hST : ¬ S T) (hx : Boxes w bc bt C T o) (hbC : bc ≠ C) (hbT : bc ≠ T) (hn : n ≤ 1000) (hSn : ∀ b, S b → b < w.heap.size) (hp : w.heap[bp]? = some (.cells #[.int .i64 (n : Int)] 3 (0, 0))) (hq : w.heap[bq]? = some (.cells #[.func (.func 56) #[] #[.pointer (some ⟨bc, 0, none⟩)]] 117 (0, 0)))
    {cs : Array Value} {t : TypeId} (hT : w.heap[T]? = some (.cells cs t (0, 0))) (ho : o + 28 < cs.size) (h1 : T ≠ C) :
    Calls Try.prog 83 #[.pointer (some ⟨bc, 0, none⟩), .pointer (some ⟨bp, 0, none⟩), .pointer (some ⟨bt, 0, none⟩), .pointer (some ⟨bq, 0, none⟩)] w fun e w' => e = .returned (.tuple #[]) ∧ w'.heap[C]? = some (rdObj A B.length c (rmany (rpr B) n s0).2.1 (rmany (rpr B) n s0).2.2) ∧
      (∃ v, w'.heap[T]? = some (.cells (cs.setIfInBounds (o + 28) v) t (0, 0)) ∧ w'.ownsRow w.heap.size 116 2 v (rmany (rpr B) n s0).1.length (prCells (rmany (rpr B) n s0).1)) ∧ Mod (fun b => b = C ∨ b = T) w w' := by
  obtain ⟨R, hR⟩ : ∃ R : World → Prop, R = fun w' => w'.heap[C]? = some (rdObj A B.length c (rmany (rpr B) n s0).2.1 (rmany (rpr B) n s0).2.2) ∧
      (∃ v, w'.heap[T]? = some (.cells (cs.setIfInBounds (o + 28) v) t (0, 0)) ∧ w'.ownsRow w.heap.size 116 2 v (rmany (rpr B) n s0).1.length (prCells (rmany (rpr B) n s0).1)) ∧ Mod (fun b => b = C ∨ b = T) w w' := ⟨_, rfl⟩
  have hd : ∀ W, W = w.drew → Calls Try.prog 82 #[.pointer (some ⟨C, 0, none⟩), .int .i64 n, .pointer (some ⟨T, o + 28, none⟩), .func (.func 56) #[] #[.pointer (some ⟨bc, 0, none⟩)]] W fun e w' => e = .returned (.tuple #[]) ∧ R w' := by
    intro W hW
    subst hW
    rw [hR]
    refine (list_pr_rd (w := w.drew) (S := S) B hb (hrow.keeps (Mod.keeps (Mod.drew (Mod.refl No w)) (fun _ _ _ f => f))) hat hS (T := T) (o := o + 28) hST hT ho h1 n hn 56 (.pointer (some ⟨bc, 0, none⟩)) (fun a W => by go_simp)
      (fun W s X hm hC hs hr hX hXs => ?_)).mono fun e w' ⟨e1, e2, e3, e4⟩ => ⟨e1, e2, e3, (Mod.refl _ w).drew.trans e4⟩
    have hXs' : w.heap.size ≤ X := hXs
    have hlC := lt_of_block hb
    have hbcW := hm.obj (w := w.drew) hx.c (by rintro (f | f); exact hbC f; exact hbT f)
    have hlb := lt_of_block hx.c
    exact each_pr_rd B hC hr hs hc hB hS hbcW hX (by omega) hbC (fun f => by have := hSn X f; omega) (by omega)
  have c0 := blk_cell hx.c 0
  have c1 := blk_cell hx.t 0
  have c2 := blk_cell hp 0
  have c3 := blk_cell hq 0
  simp at c0 c1 c2 c3
  suffices hs : Calls Try.prog 83 #[.pointer (some ⟨bc, 0, none⟩), .pointer (some ⟨bp, 0, none⟩), .pointer (some ⟨bt, 0, none⟩), .pointer (some ⟨bq, 0, none⟩)] w fun e w' => e = .returned (.tuple #[]) ∧ R w' by
    rw [hR] at hs; exact hs
  have HD := Lib.hid hd
  clear hb hrow hat hc hB hS hx hT ho hd hR hp hbC hbT hn h1 hST hSn hq
  go_enter Try.func83, Try.ntmps83
  go_wp2_with fail
  go_region_law (first | (go_simp; go_at_call 82; refine (HD.out _ rfl).mono ?_; rintro e w1 ⟨rfl, hr⟩; have HW := Lib.hid hr; clear hr))
  all_goals
    go_wp2
    first | go_end0 | (simp only [Exit.inBlock, Exit.then]; refine bodyPost_ret (results_none rfl _ _ _) rfl ?_) | refine bodyPost_ret (results_none rfl _ _ _) rfl ?_
    exact ⟨rfl, HW.out⟩
end

end Go.Proofs.Ytpkieilmlnlpkaa
