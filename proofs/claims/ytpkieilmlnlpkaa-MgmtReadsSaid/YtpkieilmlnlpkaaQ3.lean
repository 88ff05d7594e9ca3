/-
  CfgU, RdA, RdP, RdB, RdC, RdQ, CfgL, CfgV, RdD, CfgW, CfgX, OpenC in one text (pack.py).
-/
import Derived.Test.YtpkieilmlnlpkaaQ2
import Derived.Deep.MidRow
import Derived.Great.BuildSlice
import Derived.Deep.Slices
namespace Go.Proofs.Ytpkieilmlnlpkaa

section
attribute [local go_sem] stPair gtPair gtK8 gtM6 run_store_func
attribute [local go_sem high] neqPair eqK8 eqM6
open Go.RowKit
set_option linter.unusedVariables false
/-- Two boxes: the coder's address, the settings'. -/
structure BoxesC (w : World) (bc bt C T o : Nat) : Prop where
  c : w.heap[bc]? = some (.cells #[.pointer (some ⟨C, 0, none⟩)] 98 (0, 0))
  t : w.heap[bt]? = some (.cells #[.pointer (some ⟨T, o, none⟩)] 107 (0, 0))
set_option maxRecDepth 100000 in
theorem con_ip_rd {S : Nat → Prop} {w : World} {C : Nat} {A : Option Addr} {c at_ : Nat} {sh : Bool} (B : List UInt8) (hb : w.heap[C]? = some (rdObj A B.length c at_ sh)) (hrow : RowAt S w A (bcells B)) (hat : at_ ≤ B.length) (hc : B.length ≤ c) (hB : B.length ≤ 100000000) (hS : ¬ S C) {bc bt T o : Nat} (hx : BoxesC w bc bt C T o)
    {cs : Array Value} {t : TypeId} (hT : w.heap[T]? = some (.cells cs t (0, 0))) (ho : o < cs.size) (h1 : T ≠ C) :
    Calls Try.prog 84 #[.pointer (some ⟨bc, 0, none⟩), .pointer (some ⟨bt, 0, none⟩)] w fun e w' => e = .returned (.tuple #[]) ∧ w'.heap[C]? = some (rdObj A B.length c (rtake B (at_, sh) 4).2.1 (rtake B (at_, sh) 4).2.2) ∧
      w'.heap[T]? = some (.cells (cs.setIfInBounds (o) (.int .u32 (beval (rtake B (at_, sh) 4).1))) t (0, 0)) ∧ Mod (fun b => b = C ∨ b = T) w w' := by
  have hd : ∀ W, W = w.drew → Calls Try.prog 57 #[.pointer (some ⟨C, 0, none⟩), .int .i64 4, .pointer (some ⟨T, o, none⟩)] W fun e w' => e = .returned (.tuple #[]) ∧ w'.heap[C]? = some (rdObj A B.length c (rtake B (at_, sh) 4).2.1 (rtake B (at_, sh) 4).2.2) ∧
      w'.heap[T]? = some (.cells (cs.setIfInBounds (o) (.int .u32 (beval (rtake B (at_, sh) 4).1))) t (0, 0)) ∧ Mod (fun b => b = C ∨ b = T) w w' := by
    intro W hW
    subst hW
    exact (num_u32_rd (w := w.drew) B hb (hrow.keeps (Mod.keeps (Mod.drew (Mod.refl No w)) (fun _ _ _ f => f))) hat hc hB 4 (by decide) hS hT ho h1).mono fun e w' ⟨e1, e2, e3, e4⟩ => ⟨e1, e2, e3, (Mod.refl _ w).drew.trans e4⟩
  have c0 := blk_cell hx.c 0
  have c1 := blk_cell hx.t 0
  simp at c0 c1
  obtain ⟨R, hR⟩ : ∃ R : World → Prop, R = fun w' => w'.heap[C]? = some (rdObj A B.length c (rtake B (at_, sh) 4).2.1 (rtake B (at_, sh) 4).2.2) ∧
      w'.heap[T]? = some (.cells (cs.setIfInBounds (o) (.int .u32 (beval (rtake B (at_, sh) 4).1))) t (0, 0)) ∧ Mod (fun b => b = C ∨ b = T) w w' := ⟨_, rfl⟩
  have hd' : ∀ W, W = w.drew → Calls Try.prog 57 #[.pointer (some ⟨C, 0, none⟩), .int .i64 4, .pointer (some ⟨T, o, none⟩)] W fun e w' => e = .returned (.tuple #[]) ∧ R w' := by
    rw [hR]; exact hd
  suffices hs : Calls Try.prog 84 #[.pointer (some ⟨bc, 0, none⟩), .pointer (some ⟨bt, 0, none⟩)] w fun e w' => e = .returned (.tuple #[]) ∧ R w' by
    rw [hR] at hs; exact hs
  have HD := Lib.hid hd'
  clear hb hrow hat hc hB hS hx hT ho hd hd' hR
  go_enter Try.func84, Try.ntmps84
  go_wp2_with fail
  go_region_law (first | (go_simp; go_at_call 57; refine (HD.out _ rfl).mono ?_; rintro e w1 ⟨rfl, hr⟩; have HW := Lib.hid hr; clear hr))
  all_goals
    go_wp2
    first | go_end0 | (simp only [Exit.inBlock, Exit.then]; refine bodyPost_ret (results_none rfl _ _ _) rfl ?_) | refine bodyPost_ret (results_none rfl _ _ _) rfl ?_
    exact ⟨rfl, HW.out⟩
set_option maxRecDepth 100000 in
theorem con_mac_rd {S : Nat → Prop} {w : World} {C : Nat} {A : Option Addr} {c at_ : Nat} {sh : Bool} (B : List UInt8) (hb : w.heap[C]? = some (rdObj A B.length c at_ sh)) (hrow : RowAt S w A (bcells B)) (hat : at_ ≤ B.length) (hc : B.length ≤ c) (hB : B.length ≤ 100000000) (hS : ¬ S C) {bc bt T o : Nat} (hx : BoxesC w bc bt C T o)
    {cs : List Value} {t : TypeId} (hT : w.heap[T]? = some (.cells cs.toArray t (0, 0))) (ho : o + 1 + 6 ≤ cs.length) (h1 : T ≠ C) :
    Calls Try.prog 85 #[.pointer (some ⟨bc, 0, none⟩), .pointer (some ⟨bt, 0, none⟩)] w fun e w' => e = .returned (.tuple #[]) ∧ w'.heap[C]? = some (rdObj A B.length c (rtake B (at_, sh) 6).2.1 (rtake B (at_, sh) 6).2.2) ∧
      w'.heap[T]? = some (.cells (splice cs (o + 1) (bcells (rtake B (at_, sh) 6).1)).toArray t (0, 0)) ∧ Mod (fun b => b = C ∨ b = T) w w' := by
  obtain ⟨R, hR⟩ : ∃ R : World → Prop, R = fun w' => w'.heap[C]? = some (rdObj A B.length c (rtake B (at_, sh) 6).2.1 (rtake B (at_, sh) 6).2.2) ∧
      w'.heap[T]? = some (.cells (splice cs (o + 1) (bcells (rtake B (at_, sh) 6).1)).toArray t (0, 0)) ∧ Mod (fun b => b = C ∨ b = T) w w' := ⟨_, rfl⟩
  have hd : ∀ W, W = w.drew → Calls Try.prog 61 #[.pointer (some ⟨C, 0, none⟩), .slice (some ⟨T, o + 1, none⟩) 6 6] W fun e w' => e = .returned (.tuple #[]) ∧ R w' := by
    intro W hW
    subst hW
    rw [hR]
    exact (bytes_rd (w := w.drew) B hb (hrow.keeps (Mod.keeps (Mod.drew (Mod.refl No w)) (fun _ _ _ f => f))) hat hc hB 6 (by decide) hS hT ho h1).mono fun e w' ⟨e1, e2, e3, e4⟩ => ⟨e1, e2, e3, (Mod.refl _ w).drew.trans e4⟩
  have c0 := blk_cell hx.c 0
  have c1 := blk_cell hx.t 0
  simp at c0 c1
  suffices hs : Calls Try.prog 85 #[.pointer (some ⟨bc, 0, none⟩), .pointer (some ⟨bt, 0, none⟩)] w fun e w' => e = .returned (.tuple #[]) ∧ R w' by
    rw [hR] at hs; exact hs
  have HD := Lib.hid hd
  clear hb hrow hat hc hB hS hx hT ho hd hR
  go_enter Try.func85, Try.ntmps85
  go_wp2_with fail
  go_region_law (first | (go_simp; go_at_call 61; refine (HD.out _ rfl).mono ?_; rintro e w1 ⟨rfl, hr⟩; have HW := Lib.hid hr; clear hr))
  all_goals
    go_wp2
    first | go_end0 | (simp only [Exit.inBlock, Exit.then]; refine bodyPost_ret (results_none rfl _ _ _) rfl ?_) | refine bodyPost_ret (results_none rfl _ _ _) rfl ?_
    exact ⟨rfl, HW.out⟩
set_option maxRecDepth 100000 in
theorem con_omac_rd {S : Nat → Prop} {w : World} {C : Nat} {A : Option Addr} {c at_ : Nat} {sh : Bool} (B : List UInt8) (hb : w.heap[C]? = some (rdObj A B.length c at_ sh)) (hrow : RowAt S w A (bcells B)) (hat : at_ ≤ B.length) (hc : B.length ≤ c) (hB : B.length ≤ 100000000) (hS : ¬ S C) {bc bt T o : Nat} (hx : BoxesC w bc bt C T o)
    {cs : List Value} {t : TypeId} (hT : w.heap[T]? = some (.cells cs.toArray t (0, 0))) (ho : o + 7 + 6 ≤ cs.length) (h1 : T ≠ C) :
    Calls Try.prog 86 #[.pointer (some ⟨bc, 0, none⟩), .pointer (some ⟨bt, 0, none⟩)] w fun e w' => e = .returned (.tuple #[]) ∧ w'.heap[C]? = some (rdObj A B.length c (rtake B (at_, sh) 6).2.1 (rtake B (at_, sh) 6).2.2) ∧
      w'.heap[T]? = some (.cells (splice cs (o + 7) (bcells (rtake B (at_, sh) 6).1)).toArray t (0, 0)) ∧ Mod (fun b => b = C ∨ b = T) w w' := by
  obtain ⟨R, hR⟩ : ∃ R : World → Prop, R = fun w' => w'.heap[C]? = some (rdObj A B.length c (rtake B (at_, sh) 6).2.1 (rtake B (at_, sh) 6).2.2) ∧
      w'.heap[T]? = some (.cells (splice cs (o + 7) (bcells (rtake B (at_, sh) 6).1)).toArray t (0, 0)) ∧ Mod (fun b => b = C ∨ b = T) w w' := ⟨_, rfl⟩
  have hd : ∀ W, W = w.drew → Calls Try.prog 61 #[.pointer (some ⟨C, 0, none⟩), .slice (some ⟨T, o + 7, none⟩) 6 6] W fun e w' => e = .returned (.tuple #[]) ∧ R w' := by
    intro W hW
    subst hW
    rw [hR]
    exact (bytes_rd (w := w.drew) B hb (hrow.keeps (Mod.keeps (Mod.drew (Mod.refl No w)) (fun _ _ _ f => f))) hat hc hB 6 (by decide) hS hT ho h1).mono fun e w' ⟨e1, e2, e3, e4⟩ => ⟨e1, e2, e3, (Mod.refl _ w).drew.trans e4⟩
  have c0 := blk_cell hx.c 0
  have c1 := blk_cell hx.t 0
  simp at c0 c1
  suffices hs : Calls Try.prog 86 #[.pointer (some ⟨bc, 0, none⟩), .pointer (some ⟨bt, 0, none⟩)] w fun e w' => e = .returned (.tuple #[]) ∧ R w' by
    rw [hR] at hs; exact hs
  have HD := Lib.hid hd
  clear hb hrow hat hc hB hS hx hT ho hd hR
  go_enter Try.func86, Try.ntmps86
  go_wp2_with fail
  go_region_law (first | (go_simp; go_at_call 61; refine (HD.out _ rfl).mono ?_; rintro e w1 ⟨rfl, hr⟩; have HW := Lib.hid hr; clear hr))
  all_goals
    go_wp2
    first | go_end0 | (simp only [Exit.inBlock, Exit.then]; refine bodyPost_ret (results_none rfl _ _ _) rfl ?_) | refine bodyPost_ret (results_none rfl _ _ _) rfl ?_
    exact ⟨rfl, HW.out⟩
set_option maxRecDepth 100000 in
theorem con_nmac_rd {S : Nat → Prop} {w : World} {C : Nat} {A : Option Addr} {c at_ : Nat} {sh : Bool} (B : List UInt8) (hb : w.heap[C]? = some (rdObj A B.length c at_ sh)) (hrow : RowAt S w A (bcells B)) (hat : at_ ≤ B.length) (hc : B.length ≤ c) (hB : B.length ≤ 100000000) (hS : ¬ S C) {bc bt T o : Nat} (hx : BoxesC w bc bt C T o)
    {cs : List Value} {t : TypeId} (hT : w.heap[T]? = some (.cells cs.toArray t (0, 0))) (ho : o + 13 + 6 ≤ cs.length) (h1 : T ≠ C) :
    Calls Try.prog 87 #[.pointer (some ⟨bc, 0, none⟩), .pointer (some ⟨bt, 0, none⟩)] w fun e w' => e = .returned (.tuple #[]) ∧ w'.heap[C]? = some (rdObj A B.length c (rtake B (at_, sh) 6).2.1 (rtake B (at_, sh) 6).2.2) ∧
      w'.heap[T]? = some (.cells (splice cs (o + 13) (bcells (rtake B (at_, sh) 6).1)).toArray t (0, 0)) ∧ Mod (fun b => b = C ∨ b = T) w w' := by
  obtain ⟨R, hR⟩ : ∃ R : World → Prop, R = fun w' => w'.heap[C]? = some (rdObj A B.length c (rtake B (at_, sh) 6).2.1 (rtake B (at_, sh) 6).2.2) ∧
      w'.heap[T]? = some (.cells (splice cs (o + 13) (bcells (rtake B (at_, sh) 6).1)).toArray t (0, 0)) ∧ Mod (fun b => b = C ∨ b = T) w w' := ⟨_, rfl⟩
  have hd : ∀ W, W = w.drew → Calls Try.prog 61 #[.pointer (some ⟨C, 0, none⟩), .slice (some ⟨T, o + 13, none⟩) 6 6] W fun e w' => e = .returned (.tuple #[]) ∧ R w' := by
    intro W hW
    subst hW
    rw [hR]
    exact (bytes_rd (w := w.drew) B hb (hrow.keeps (Mod.keeps (Mod.drew (Mod.refl No w)) (fun _ _ _ f => f))) hat hc hB 6 (by decide) hS hT ho h1).mono fun e w' ⟨e1, e2, e3, e4⟩ => ⟨e1, e2, e3, (Mod.refl _ w).drew.trans e4⟩
  have c0 := blk_cell hx.c 0
  have c1 := blk_cell hx.t 0
  simp at c0 c1
  suffices hs : Calls Try.prog 87 #[.pointer (some ⟨bc, 0, none⟩), .pointer (some ⟨bt, 0, none⟩)] w fun e w' => e = .returned (.tuple #[]) ∧ R w' by
    rw [hR] at hs; exact hs
  have HD := Lib.hid hd
  clear hb hrow hat hc hB hS hx hT ho hd hR
  go_enter Try.func87, Try.ntmps87
  go_wp2_with fail
  go_region_law (first | (go_simp; go_at_call 61; refine (HD.out _ rfl).mono ?_; rintro e w1 ⟨rfl, hr⟩; have HW := Lib.hid hr; clear hr))
  all_goals
    go_wp2
    first | go_end0 | (simp only [Exit.inBlock, Exit.then]; refine bodyPost_ret (results_none rfl _ _ _) rfl ?_) | refine bodyPost_ret (results_none rfl _ _ _) rfl ?_
    exact ⟨rfl, HW.out⟩
set_option maxRecDepth 100000 in
theorem con_key_rd {S : Nat → Prop} {w : World} {C : Nat} {A : Option Addr} {c at_ : Nat} {sh : Bool} (B : List UInt8) (hb : w.heap[C]? = some (rdObj A B.length c at_ sh)) (hrow : RowAt S w A (bcells B)) (hat : at_ ≤ B.length) (hc : B.length ≤ c) (hB : B.length ≤ 100000000) (hS : ¬ S C) {bc bt T o : Nat} (hx : BoxesC w bc bt C T o)
    {cs : List Value} {t : TypeId} (hT : w.heap[T]? = some (.cells cs.toArray t (0, 0))) (ho : o + 19 + 8 ≤ cs.length) (h1 : T ≠ C) :
    Calls Try.prog 88 #[.pointer (some ⟨bc, 0, none⟩), .pointer (some ⟨bt, 0, none⟩)] w fun e w' => e = .returned (.tuple #[]) ∧ w'.heap[C]? = some (rdObj A B.length c (rtake B (at_, sh) 8).2.1 (rtake B (at_, sh) 8).2.2) ∧
      w'.heap[T]? = some (.cells (splice cs (o + 19) (bcells (rtake B (at_, sh) 8).1)).toArray t (0, 0)) ∧ Mod (fun b => b = C ∨ b = T) w w' := by
  obtain ⟨R, hR⟩ : ∃ R : World → Prop, R = fun w' => w'.heap[C]? = some (rdObj A B.length c (rtake B (at_, sh) 8).2.1 (rtake B (at_, sh) 8).2.2) ∧
      w'.heap[T]? = some (.cells (splice cs (o + 19) (bcells (rtake B (at_, sh) 8).1)).toArray t (0, 0)) ∧ Mod (fun b => b = C ∨ b = T) w w' := ⟨_, rfl⟩
  have hd : ∀ W, W = w.drew → Calls Try.prog 61 #[.pointer (some ⟨C, 0, none⟩), .slice (some ⟨T, o + 19, none⟩) 8 8] W fun e w' => e = .returned (.tuple #[]) ∧ R w' := by
    intro W hW
    subst hW
    rw [hR]
    exact (bytes_rd (w := w.drew) B hb (hrow.keeps (Mod.keeps (Mod.drew (Mod.refl No w)) (fun _ _ _ f => f))) hat hc hB 8 (by decide) hS hT ho h1).mono fun e w' ⟨e1, e2, e3, e4⟩ => ⟨e1, e2, e3, (Mod.refl _ w).drew.trans e4⟩
  have c0 := blk_cell hx.c 0
  have c1 := blk_cell hx.t 0
  simp at c0 c1
  suffices hs : Calls Try.prog 88 #[.pointer (some ⟨bc, 0, none⟩), .pointer (some ⟨bt, 0, none⟩)] w fun e w' => e = .returned (.tuple #[]) ∧ R w' by
    rw [hR] at hs; exact hs
  have HD := Lib.hid hd
  clear hb hrow hat hc hB hS hx hT ho hd hR
  go_enter Try.func88, Try.ntmps88
  go_wp2_with fail
  go_region_law (first | (go_simp; go_at_call 61; refine (HD.out _ rfl).mono ?_; rintro e w1 ⟨rfl, hr⟩; have HW := Lib.hid hr; clear hr))
  all_goals
    go_wp2
    first | go_end0 | (simp only [Exit.inBlock, Exit.then]; refine bodyPost_ret (results_none rfl _ _ _) rfl ?_) | refine bodyPost_ret (results_none rfl _ _ _) rfl ?_
    exact ⟨rfl, HW.out⟩
set_option maxRecDepth 100000 in
theorem con_drain_rd {S : Nat → Prop} {w : World} {C : Nat} {A : Option Addr} {c at_ : Nat} {sh : Bool} (B : List UInt8) (hb : w.heap[C]? = some (rdObj A B.length c at_ sh)) (hrow : RowAt S w A (bcells B)) (hat : at_ ≤ B.length) (hc : B.length ≤ c) (hB : B.length ≤ 100000000) (hS : ¬ S C) {bc bt T o : Nat} (hx : BoxesC w bc bt C T o)
    {cs : Array Value} {t : TypeId} (hT : w.heap[T]? = some (.cells cs t (0, 0))) (ho : o + 27 < cs.size) (h1 : T ≠ C) :
    Calls Try.prog 89 #[.pointer (some ⟨bc, 0, none⟩), .pointer (some ⟨bt, 0, none⟩)] w fun e w' => e = .returned (.tuple #[]) ∧ w'.heap[C]? = some (rdObj A B.length c (rtake B (at_, sh) 4).2.1 (rtake B (at_, sh) 4).2.2) ∧
      w'.heap[T]? = some (.cells (cs.setIfInBounds (o + 27) (.int .u32 (beval (rtake B (at_, sh) 4).1))) t (0, 0)) ∧ Mod (fun b => b = C ∨ b = T) w w' := by
  have hd : ∀ W, W = w.drew → Calls Try.prog 57 #[.pointer (some ⟨C, 0, none⟩), .int .i64 4, .pointer (some ⟨T, o + 27, none⟩)] W fun e w' => e = .returned (.tuple #[]) ∧ w'.heap[C]? = some (rdObj A B.length c (rtake B (at_, sh) 4).2.1 (rtake B (at_, sh) 4).2.2) ∧
      w'.heap[T]? = some (.cells (cs.setIfInBounds (o + 27) (.int .u32 (beval (rtake B (at_, sh) 4).1))) t (0, 0)) ∧ Mod (fun b => b = C ∨ b = T) w w' := by
    intro W hW
    subst hW
    exact (num_u32_rd (w := w.drew) B hb (hrow.keeps (Mod.keeps (Mod.drew (Mod.refl No w)) (fun _ _ _ f => f))) hat hc hB 4 (by decide) hS hT ho h1).mono fun e w' ⟨e1, e2, e3, e4⟩ => ⟨e1, e2, e3, (Mod.refl _ w).drew.trans e4⟩
  have c0 := blk_cell hx.c 0
  have c1 := blk_cell hx.t 0
  simp at c0 c1
  obtain ⟨R, hR⟩ : ∃ R : World → Prop, R = fun w' => w'.heap[C]? = some (rdObj A B.length c (rtake B (at_, sh) 4).2.1 (rtake B (at_, sh) 4).2.2) ∧
      w'.heap[T]? = some (.cells (cs.setIfInBounds (o + 27) (.int .u32 (beval (rtake B (at_, sh) 4).1))) t (0, 0)) ∧ Mod (fun b => b = C ∨ b = T) w w' := ⟨_, rfl⟩
  have hd' : ∀ W, W = w.drew → Calls Try.prog 57 #[.pointer (some ⟨C, 0, none⟩), .int .i64 4, .pointer (some ⟨T, o + 27, none⟩)] W fun e w' => e = .returned (.tuple #[]) ∧ R w' := by
    rw [hR]; exact hd
  suffices hs : Calls Try.prog 89 #[.pointer (some ⟨bc, 0, none⟩), .pointer (some ⟨bt, 0, none⟩)] w fun e w' => e = .returned (.tuple #[]) ∧ R w' by
    rw [hR] at hs; exact hs
  have HD := Lib.hid hd'
  clear hb hrow hat hc hB hS hx hT ho hd hd' hR
  go_enter Try.func89, Try.ntmps89
  go_wp2_with fail
  go_region_law (first | (go_simp; go_at_call 57; refine (HD.out _ rfl).mono ?_; rintro e w1 ⟨rfl, hr⟩; have HW := Lib.hid hr; clear hr))
  all_goals
    go_wp2
    first | go_end0 | (simp only [Exit.inBlock, Exit.then]; refine bodyPost_ret (results_none rfl _ _ _) rfl ?_) | refine bodyPost_ret (results_none rfl _ _ _) rfl ?_
    exact ⟨rfl, HW.out⟩
set_option maxRecDepth 100000 in
theorem con_n_rd {S : Nat → Prop} {w : World} {C : Nat} {A : Option Addr} {c at_ : Nat} {sh : Bool} (B : List UInt8) (hb : w.heap[C]? = some (rdObj A B.length c at_ sh)) (hrow : RowAt S w A (bcells B)) (hat : at_ ≤ B.length) (hc : B.length ≤ c) (hB : B.length ≤ 100000000) (hS : ¬ S C) {bc bt bp T o : Nat} (hx : BoxesC w bc bt C T o)
    {P : Option Addr} {n p : Nat} (hT : w.cell? ⟨T, o + 28, none⟩ = some (.slice P n p)) {x0 : Value} (hp : w.heap[bp]? = some (.cells #[x0] 3 (0, 0))) (h3 : bp ≠ C) :
    Calls Try.prog 90 #[.pointer (some ⟨bc, 0, none⟩), .pointer (some ⟨bt, 0, none⟩), .pointer (some ⟨bp, 0, none⟩)] w fun e w' => e = .returned (.tuple #[]) ∧ w'.heap[C]? = some (rdObj A B.length c (rtake B (at_, sh) 1).2.1 (rtake B (at_, sh) 1).2.2) ∧
      w'.heap[bp]? = some (.cells #[.int .i64 (beval (rtake B (at_, sh) 1).1)] 3 (0, 0)) ∧ Mod (fun b => b = C ∨ b = bp) w w' := by
  obtain ⟨m, hm⟩ : ∃ m, m = beval (rtake B (at_, sh) 1).1 := ⟨_, rfl⟩
  rw [← hm]
  obtain ⟨R, hR⟩ : ∃ R : World → Prop, R = fun w' => w'.heap[C]? = some (rdObj A B.length c (rtake B (at_, sh) 1).2.1 (rtake B (at_, sh) 1).2.2) ∧ w'.heap[bp]? = some (.cells #[.int .i64 m] 3 (0, 0)) ∧ Mod (fun b => b = C ∨ b = bp) w w' := ⟨_, rfl⟩
  have hd : ∀ W, W = w.drew → Calls Try.prog 75 #[.pointer (some ⟨C, 0, none⟩), .int .i64 n] W fun e w' => e = .returned (.int .i64 m) ∧ w'.cell? ⟨bp, 0, none⟩ = some x0 ∧ w'.frozen? ⟨bp, 0, none⟩ = false ∧ R (w'.setCell ⟨bp, 0, none⟩ (.int .i64 m)) := by
    intro W hW
    subst hW
    have hcr := count_rd (w := w.drew) B hb (hrow.keeps (Mod.keeps (Mod.drew (Mod.refl No w)) (fun _ _ _ f => f))) hat hc hB hS n
    rw [← hm] at hcr
    refine hcr.mono fun e w' ⟨he, a1, a2⟩ => ?_
    have hp' : w'.heap[bp]? = some (.cells #[x0] 3 (0, 0)) := a2.obj (w := w.drew) hp h3
    rw [hR]
    refine ⟨he, (blk_cell hp' 0).trans rfl, blk_free hp' 0, ?_, ?_, ?_⟩
    · rw [heap_setCell_ne _ _ (fun e => h3 e.symm)]
      exact a1
    · rw [heap_setCell_row hp']; simp
    · exact Mod.setCell ((Mod.refl _ w).drew.trans (a2.mono (fun i hi => .inl hi))) (.inr (.inr rfl)) _
  have c0 := blk_cell hx.c 0
  have c1 := blk_cell hx.t 0
  simp at c0 c1
  suffices hs : Calls Try.prog 90 #[.pointer (some ⟨bc, 0, none⟩), .pointer (some ⟨bt, 0, none⟩), .pointer (some ⟨bp, 0, none⟩)] w fun e w' => e = .returned (.tuple #[]) ∧ R w' by
    rw [hR] at hs; exact hs
  have HD := Lib.hid hd
  clear hb hrow hat hc hB hS hx hp h3 hd hR hm
  go_enter Try.func90, Try.ntmps90
  go_wp2_with fail
  go_region_law (first | (go_simp; go_at_call 75; refine (HD.out _ rfl).mono ?_; rintro e w1 ⟨rfl, d1, f1, hr⟩; have HW := Lib.hid hr; clear hr))
  all_goals
    go_wp2
    first | go_end0 | (simp only [Exit.inBlock, Exit.then]; refine bodyPost_ret (results_none rfl _ _ _) rfl ?_) | refine bodyPost_ret (results_none rfl _ _ _) rfl ?_
    exact ⟨rfl, HW.out⟩
end

section
attribute [local go_sem] stPair gtPair gtK8 gtM6 run_store_func
attribute [local go_sem high] neqPair eqK8 eqM6
open Go.RowKit
set_option linter.unusedVariables false
abbrev St := Nat × Bool
/-- So many are read, till the bytes end. -/
def rmany {α : Type} (rd : St → α × St) : Nat → St → List α × St
  | 0, s => ([], s)
  | n + 1, s => if s.2 = true then ([], s) else ((rd s).1 :: (rmany rd n (rd s).2).1, (rmany rd n (rd s).2).2)
theorem rmany_short {α : Type} (rd : St → α × St) (n : Nat) {s : St} (h : s.2 = true) : rmany rd n s = ([], s) := by
  cases n with
  | zero => rfl
  | succ n => simp [rmany, h]
theorem rmany_step {α : Type} (rd : St → α × St) (n : Nat) {s : St} (h : s.2 = false) : rmany rd (n + 1) s = ((rd s).1 :: (rmany rd n (rd s).2).1, (rmany rd n (rd s).2).2) := by simp [rmany, h]
theorem rmany_le {α : Type} {rd : St → α × St} {m : Nat} (h : ∀ s, s.1 ≤ m → (rd s).2.1 ≤ m) : ∀ n s, s.1 ≤ m → (rmany rd n s).2.1 ≤ m
  | 0, s, hs => hs
  | n + 1, s, hs => by
    unfold rmany
    split
    · exact hs
    · exact rmany_le h n _ (h s hs)
theorem rmany_len {α : Type} (rd : St → α × St) : ∀ n s, (rmany rd n s).1.length ≤ n
  | 0, s => by simp [rmany]
  | n + 1, s => by
    unfold rmany
    split
    · simp
    · have := rmany_len rd n (rd s).2
      simp; omega
def rnum (B : List UInt8) (k : Nat) (s : St) : Nat × St := (beval (rtake B s k).1, (rtake B s k).2)
def rpr (B : List UInt8) (s : St) : Pr × St := (⟨(rnum B 4 s).1, (rnum B 4 (rnum B 4 s).2).1⟩, (rnum B 4 (rnum B 4 s).2).2)
theorem rnum_le (B : List UInt8) (k : Nat) (s : St) (h : s.1 ≤ B.length) : (rnum B k s).2.1 ≤ B.length := rtake_le B s k h
theorem rpr_le (B : List UInt8) (s : St) (h : s.1 ≤ B.length) : (rpr B s).2.1 ≤ B.length := rtake_le B _ 4 (rtake_le B s 4 h)
theorem rnum_lt (B : List UInt8) (k : Nat) (s : St) : (rnum B k s).1 < 256 ^ k := by
  have := beval_lt (rtake B s k).1
  rwa [rtake_length] at this
theorem infou32 : (Try.prog.info? 26).map (fun i => (i.zero, i.size, i.bytes)) = some (some (.int .u32 0), 1, 4) := by kernel_rfl
set_option maxRecDepth 100000 in
set_option maxHeartbeats 2000000 in
theorem list_u32_rd {S : Nat → Prop} {w : World} {C : Nat} {A : Option Addr} {c : Nat} {s0 : St} (B : List UInt8) (hb : w.heap[C]? = some (rdObj A B.length c s0.1 s0.2)) (hrow : RowAt S w A (bcells B)) (hat : s0.1 ≤ B.length) (hS : ¬ S C) {T o : Nat} (hST : ¬ S T)
    {cs : Array Value} {t : TypeId} (hT : w.heap[T]? = some (.cells cs t (0, 0))) (ho : o < cs.size) (h1 : T ≠ C) (n : Nat) (hn : n ≤ 1000) (fn : Nat) (cp : Value)
    (hen : ∀ (a : Array Value) (W : World), (callFunc fn a).run Try.prog W = .ok (.enter fn a) W)
    (he : ∀ (W : World) (s : St) (X : Nat), Mod (fun b => b = C ∨ b = T) w W → W.heap[C]? = some (rdObj A B.length c s.1 s.2) → s.1 ≤ B.length → RowAt S W A (bcells B) → W.heap[X]? = some (.cells #[.int .u32 0] 26 (0, 0)) → w.heap.size ≤ X →
      Calls Try.prog fn #[.pointer (some ⟨X, 0, none⟩), cp] W fun e W' => e = .returned (.tuple #[]) ∧ W'.heap[C]? = some (rdObj A B.length c (rnum B 4 s).2.1 (rnum B 4 s).2.2) ∧ W'.heap[X]? = some (.cells ([.int .u32 ((rnum B 4 s).1 : Int)]).toArray 26 (0, 0)) ∧ Mod (fun b => b = C ∨ b = X) W W') :
    Calls Try.prog 79 #[.pointer (some ⟨C, 0, none⟩), .int .i64 n, .pointer (some ⟨T, o, none⟩), .func (.func fn) #[] #[cp]] w fun e w' => e = .returned (.tuple #[]) ∧ w'.heap[C]? = some (rdObj A B.length c (rmany (rnum B 4) n s0).2.1 (rmany (rnum B 4) n s0).2.2) ∧
      (∃ v, w'.heap[T]? = some (.cells (cs.setIfInBounds o v) t (0, 0)) ∧ w'.ownsRow w.heap.size 26 1 v (rmany (rnum B 4) n s0).1.length (numCells (rmany (rnum B 4) n s0).1)) ∧ Mod (fun b => b = C ∨ b = T) w w' := by
  obtain ⟨i0, hi, hz0, hz1, hz2⟩ := info_parts infou32
  have c1 := blk_cell hb 1
  simp at c1
  have c2 := blk_cell hT o
  have f2 := blk_free hT o
  rw [Array.getElem?_eq_getElem ho] at c2
  obtain ⟨v0, hv0⟩ : ∃ v0, v0 = cs[o] := ⟨_, rfl⟩
  rw [← hv0] at c2
  have hlC := lt_of_block hb
  have hlT := lt_of_block hT
  have hrow' := hrow.mono (S' := fun b => S b ∧ b < w.heap.size) (fun b hb hs => ⟨hs, hb⟩)
  have hkp : ∀ W, Mod (fun b => b = C ∨ b = T) w W → RowAt S W A (bcells B) := fun W hW => hrow.keeps (hW.keeps (fun b _ hs f => by rcases f with f | f; exact hS (by subst f; exact hs); exact hST (by subst f; exact hs)))
  have H0 := Lib.hid (And.intro hb (And.intro hT (And.intro ho (And.intro hat hkp))))
  have HE := Lib.hid he
  clear hb hrow hrow' hat hT ho he hkp hv0
  go_enter Try.func79, Try.ntmps79
  go_wp2
  go_loopw [8] (fun i wr => ∃ (j : Nat) (acc : List Nat) (s : St) (v : Value), i = .int .i64 j ∧ j ≤ n ∧ acc.length ≤ j ∧ rmany (rnum B 4) n s0 = (acc ++ (rmany (rnum B 4) (n - j) s).1, (rmany (rnum B 4) (n - j) s).2) ∧ s.1 ≤ B.length ∧
    wr.heap[C]? = some (rdObj A B.length c s.1 s.2) ∧ wr.heap[T]? = some (.cells (cs.setIfInBounds o v) t (0, 0)) ∧ wr.ownsRow w.heap.size 26 1 v acc.length (numCells acc) ∧ Mod (fun b => b = C ∨ b = T) w wr) (fun i _ => n - (intOf i).toNat)
  case atStart =>
    refine ⟨0, [], s0, .slice none 0 0, rfl, by omega, by simp, by simp, H0.out.2.2.2.1, ?_, ?_, ⟨rfl, .inl ⟨rfl, rfl⟩⟩, ?_⟩
    · rw [heap_setCell_ne _ _ (fun e => h1 e.symm)]; exact H0.out.1
    · exact heap_setCell_row H0.out.2.1 _
    · exact Mod.setCell (Mod.refl _ _) (.inr (.inr rfl)) _
  case round =>
    obtain ⟨j, acc, s, v, rfl, hj, hacc, hsp, hs8, hbC, hbT, hown, hmw⟩ := hrel
    obtain ⟨at_, sh⟩ := s
    have d3 := blk_cell hbC 3
    simp at d3
    have dT : wr.cell? ⟨T, o, none⟩ = some v := (blk_cell hbT o).trans (by simp [H0.out.2.2.1])
    by_cases hlt : j < n
    · have p1 : (0:Int) ≤ j := by omega
      have p2 : (j:Int) < n := by omega
      cases sh
      · have hmA : Mod No wr (wr.alloc (.cells #[.int .u32 0] 26)) := (Mod.refl _ _).alloc _
        have hmwA : Mod (fun b => b = C ∨ b = T) w (wr.alloc (.cells #[.int .u32 0] 26)) := hmw.alloc _
        have hc := HE.out (wr.alloc (.cells #[.int .u32 0] 26)) (at_, false) wr.heap.size hmwA (hmA.obj hbC id) hs8 (H0.out.2.2.2.2 _ hmwA) (at10 wr _) hmw.size
        have hnx : n - j = (n - (j + 1)) + 1 := by omega
        rw [hnx, rmany_step _ _ rfl] at hsp
        have hwl := hmw.size
        obtain ⟨y, hy⟩ : ∃ y, y = (rnum B 4 (at_, false)).1 := ⟨_, rfl⟩
        obtain ⟨s2, hs2⟩ : ∃ s2, s2 = (rnum B 4 (at_, false)).2 := ⟨_, rfl⟩
        have hs28 : s2.1 ≤ B.length := by rw [hs2]; exact rnum_le B 4 (at_, false) hs8
        rw [← hy, ← hs2] at hc hsp
        have hlb : v.ownBlock ≠ some T := by
          intro e
          rcases hown.2 with ⟨rfl, _⟩ | ⟨g, cap, cur, rfl, hg, _⟩
          · simp [Value.ownBlock] at e
          · obtain rfl : g = T := by simpa [Value.ownBlock] using e
            omega
        have hlC' : v.ownBlock ≠ some C := by
          intro e
          rcases hown.2 with ⟨rfl, _⟩ | ⟨g, cap, cur, rfl, hg, _⟩
          · simp [Value.ownBlock] at e
          · obtain rfl : g = C := by simpa [Value.ownBlock] using e
            omega
        have hlX : v.ownBlock ≠ some wr.heap.size := by
          intro e
          rcases hown.2 with ⟨rfl, _⟩ | ⟨g, cap, cur, rfl, hg, hgg, _⟩
          · simp [Value.ownBlock] at e
          · obtain rfl : g = wr.heap.size := by simpa [Value.ownBlock] using e
            exact Nat.lt_irrefl _ (lt_of_block hgg)
        have HC := Lib.hid hc
        have HR := Lib.hid (And.intro hsp (And.intro hbT (And.intro hown (And.intro hmw (And.intro hs28 hbC)))))
        clear hc hsp hbC hbT hmA hmwA hs8 hy hs2 hown hs28
        go_wp2_with fail
        refine HC.out.mono ?_
        rintro e w5 ⟨rfl, k1, k2, k3⟩
        have g3 := k3.obj ((((Mod.refl No wr).alloc (.cells #[.int .u32 0] 26))).obj HR.out.2.1 id) (by rintro (f | f); exact h1 f; omega)
        have dT5 : w5.cell? ⟨T, o, none⟩ = some v := (blk_cell g3 o).trans (by simp [H0.out.2.2.1])
        have fT5 := blk_free g3 o
        have lT5 : T < w5.heap.size := lt_of_block g3
        have lX5 : wr.heap.size < w5.heap.size := lt_of_block k2
        have lC5 : C < w5.heap.size := lt_of_block k1
        have dX5 : w5.cell? ⟨wr.heap.size, 0, none⟩ = some (.int .u32 (y : Int)) := (blk_cell k2 0).trans rfl
        have hown5 : w5.ownsRow w.heap.size 26 1 v acc.length (numCells acc) := own_mod (own_mod HR.out.2.2.1 ((Mod.refl No wr).alloc (.cells #[.int .u32 0] 26)) (fun _ _ f => f)) k3 (fun k hk f => by rcases f with f | f; exact hlC' (by rw [← f]; exact hk); exact hlX (by rw [← f]; exact hk))
        have hsz5 := k3.size
        have hacc8 : acc.length ≤ 1000 := by omega
        have H5 := Lib.hid (And.intro k1 (And.intro k3 (And.intro g3 (And.intro hown5 (And.intro hsz5 hacc8)))))
        clear k1 k2 k3 g3 hown5 hsz5 hacc8 d3 dT
        go_wp2_with fail
        go_region_law (first
          | (refine step_append_lies _ (by rfl) _ _ 29 (by rfl) w.heap.size 26 i0 _ 1 4 Try.underlying29 hi hz0 hz1 hz2 (by rfl) (by decide) v acc.length (numCells acc) (by rfl) ?_ _ _ _ ((fun (n : Nat) => [Value.int .u32 (n : Int)]) y) (by rfl) (by rfl) ?_ (by simp [Value.oneCell']) (by decide) ?_ ?_ ?_ _ (by rfl) ?_;
             (exact own_mod H5.out.2.2.2.1 (by repeat (first | with_reducible exact Mod.refl _ _ | refine Mod.alloc ?_ _ | refine Mod.drew ?_)) (fun _ _ f => f));
             (exact World.news_of_block (at10 _ _));
             (have := H5.out.2.2.2.2.2; unfold maxLen; omega);
             (have := H5.out.2.2.2.2.2; omega);
             (have := H5.out.2.2.2.2.1; simp at this; simp; omega);
             intro g cap w6 own6 gr6 hat6 hlt6;
             have m6 : Mod (fun b => v.ownBlock = some b) w5 w6 := Mod.grown (((Mod.refl _ w5)).mono (fun _ f => f) |> (fun h => by repeat (first | with_reducible exact h | refine Mod.alloc ?_ _ | refine Mod.drew ?_))) gr6 (fun k hk => .inr hk);
             have fT6 := blk_free (m6.obj H5.out.2.2.1 hlb) o; have dT6 : w6.cell? ⟨T, o, none⟩ = some v := (blk_cell (m6.obj H5.out.2.2.1 hlb) o).trans (by simp [H0.out.2.2.1]); have H6 := Lib.hid (And.intro own6 (And.intro m6 hat6)); clear own6 m6 hat6 gr6))
        all_goals
          go_wp2
          have hT6 := H6.out.2.1.obj H5.out.2.2.1 hlb
          refine ⟨⟨j + 1, acc ++ [y], s2, .slice (some ⟨g, 0, none⟩) (acc.length + 1) cap, by go_num, by omega, ?_, ?_, HR.out.2.2.2.2.1, ?_, ?_, ?_, ?_⟩, by simp [intOf]; omega⟩
          · simp; omega
          · rw [HR.out.1]; simp
          · rw [heap_setCell_ne _ _ (fun e => h1 e.symm)]; exact H6.out.2.1.obj H5.out.1 hlC'
          · rw [heap_setCell_row hT6]; simp
          · refine own_mod (F := fun b => b = T) ?_ (Mod.setCell (p := ⟨T, o, none⟩) (Mod.refl (fun b => b = T) w6) (.inr rfl) _) (fun k hk f => ?_)
            · have := H6.out.1
              simpa [numCells] using this
            · subst f
              obtain rfl : g = k := by simpa [Value.ownBlock] using hk
              rcases H6.out.2.2 with f | f
              · exact hlb f
              · have := H5.out.2.2.2.2.1; simp at f this; omega
          · refine Mod.setCell ?_ (.inr (.inr rfl)) _
            have m5 : Mod (fun b => b = C ∨ b = T) w w5 := (HR.out.2.2.2.1.alloc (.cells #[.int .u32 0] 26)).trans' H5.out.2.1 (fun i hi f => by rcases f with f | f; exact .inl f; omega)
            refine m5.trans' H6.out.2.1 (fun i hi f => ?_)
            rcases HR.out.2.2.1.2 with ⟨rfl, _⟩ | ⟨g', cap', cur', rfl, hg', _⟩
            · simp [Value.ownBlock] at f
            · obtain rfl : g' = i := by simpa [Value.ownBlock] using f
              omega
      · have HR := Lib.hid (And.intro hsp (And.intro hbC (And.intro hbT (And.intro hown hmw))))
        clear hsp hbC hbT hown hmw
        go_wp2
        first | go_end0 | (simp only [Exit.inBlock, Exit.then]; refine bodyPost_ret (results_none rfl _ _ _) rfl ?_) | refine bodyPost_ret (results_none rfl _ _ _) rfl ?_
        obtain ⟨h5, h6, h7, h8, h9⟩ := HR.out
        rw [rmany_short (rnum B 4) (n - j) (s := (at_, true)) rfl] at h5
        rw [h5]
        exact ⟨rfl, h6, ⟨v, h7, by simpa using h8⟩, h9⟩
    · obtain rfl : n = j := by omega
      have HR := Lib.hid (And.intro hsp (And.intro hbC (And.intro hbT (And.intro hown hmw))))
      clear hsp hbC hbT hown hmw
      go_wp2
      first | go_end0 | (simp only [Exit.inBlock, Exit.then]; refine bodyPost_ret (results_none rfl _ _ _) rfl ?_) | refine bodyPost_ret (results_none rfl _ _ _) rfl ?_
      obtain ⟨h5, h6, h7, h8, h9⟩ := HR.out
      rw [Nat.sub_self] at h5
      rw [h5]
      exact ⟨rfl, h6, ⟨v, h7, by simpa [rmany] using h8⟩, h9⟩
theorem infopr : (Try.prog.info? 116).map (fun i => (i.zero, i.size, i.bytes)) = some (some (.agg #[.int .u32 0, .int .u32 0]), 2, 8) := by kernel_rfl
set_option maxRecDepth 100000 in
set_option maxHeartbeats 2000000 in
theorem list_pr_rd {S : Nat → Prop} {w : World} {C : Nat} {A : Option Addr} {c : Nat} {s0 : St} (B : List UInt8) (hb : w.heap[C]? = some (rdObj A B.length c s0.1 s0.2)) (hrow : RowAt S w A (bcells B)) (hat : s0.1 ≤ B.length) (hS : ¬ S C) {T o : Nat} (hST : ¬ S T)
    {cs : Array Value} {t : TypeId} (hT : w.heap[T]? = some (.cells cs t (0, 0))) (ho : o < cs.size) (h1 : T ≠ C) (n : Nat) (hn : n ≤ 1000) (fn : Nat) (cp : Value)
    (hen : ∀ (a : Array Value) (W : World), (callFunc fn a).run Try.prog W = .ok (.enter fn a) W)
    (he : ∀ (W : World) (s : St) (X : Nat), Mod (fun b => b = C ∨ b = T) w W → W.heap[C]? = some (rdObj A B.length c s.1 s.2) → s.1 ≤ B.length → RowAt S W A (bcells B) → W.heap[X]? = some (.cells #[.int .u32 0, .int .u32 0] 116 (0, 0)) → w.heap.size ≤ X →
      Calls Try.prog fn #[.pointer (some ⟨X, 0, none⟩), cp] W fun e W' => e = .returned (.tuple #[]) ∧ W'.heap[C]? = some (rdObj A B.length c (rpr B s).2.1 (rpr B s).2.2) ∧ W'.heap[X]? = some (.cells ((rpr B s).1.cells).toArray 116 (0, 0)) ∧ Mod (fun b => b = C ∨ b = X) W W') :
    Calls Try.prog 82 #[.pointer (some ⟨C, 0, none⟩), .int .i64 n, .pointer (some ⟨T, o, none⟩), .func (.func fn) #[] #[cp]] w fun e w' => e = .returned (.tuple #[]) ∧ w'.heap[C]? = some (rdObj A B.length c (rmany (rpr B) n s0).2.1 (rmany (rpr B) n s0).2.2) ∧
      (∃ v, w'.heap[T]? = some (.cells (cs.setIfInBounds o v) t (0, 0)) ∧ w'.ownsRow w.heap.size 116 2 v (rmany (rpr B) n s0).1.length (prCells (rmany (rpr B) n s0).1)) ∧ Mod (fun b => b = C ∨ b = T) w w' := by
  obtain ⟨i0, hi, hz0, hz1, hz2⟩ := info_parts infopr
  have c1 := blk_cell hb 1
  simp at c1
  have c2 := blk_cell hT o
  have f2 := blk_free hT o
  rw [Array.getElem?_eq_getElem ho] at c2
  obtain ⟨v0, hv0⟩ : ∃ v0, v0 = cs[o] := ⟨_, rfl⟩
  rw [← hv0] at c2
  have hlC := lt_of_block hb
  have hlT := lt_of_block hT
  have hrow' := hrow.mono (S' := fun b => S b ∧ b < w.heap.size) (fun b hb hs => ⟨hs, hb⟩)
  have hkp : ∀ W, Mod (fun b => b = C ∨ b = T) w W → RowAt S W A (bcells B) := fun W hW => hrow.keeps (hW.keeps (fun b _ hs f => by rcases f with f | f; exact hS (by subst f; exact hs); exact hST (by subst f; exact hs)))
  have H0 := Lib.hid (And.intro hb (And.intro hT (And.intro ho (And.intro hat hkp))))
  have HE := Lib.hid he
  clear hb hrow hrow' hat hT ho he hkp hv0
  go_enter Try.func82, Try.ntmps82
  go_wp2
  go_loopw [8] (fun i wr => ∃ (j : Nat) (acc : List Pr) (s : St) (v : Value), i = .int .i64 j ∧ j ≤ n ∧ acc.length ≤ j ∧ rmany (rpr B) n s0 = (acc ++ (rmany (rpr B) (n - j) s).1, (rmany (rpr B) (n - j) s).2) ∧ s.1 ≤ B.length ∧
    wr.heap[C]? = some (rdObj A B.length c s.1 s.2) ∧ wr.heap[T]? = some (.cells (cs.setIfInBounds o v) t (0, 0)) ∧ wr.ownsRow w.heap.size 116 2 v acc.length (prCells acc) ∧ Mod (fun b => b = C ∨ b = T) w wr) (fun i _ => n - (intOf i).toNat)
  case atStart =>
    refine ⟨0, [], s0, .slice none 0 0, rfl, by omega, by simp, by simp, H0.out.2.2.2.1, ?_, ?_, ⟨rfl, .inl ⟨rfl, rfl⟩⟩, ?_⟩
    · rw [heap_setCell_ne _ _ (fun e => h1 e.symm)]; exact H0.out.1
    · exact heap_setCell_row H0.out.2.1 _
    · exact Mod.setCell (Mod.refl _ _) (.inr (.inr rfl)) _
  case round =>
    obtain ⟨j, acc, s, v, rfl, hj, hacc, hsp, hs8, hbC, hbT, hown, hmw⟩ := hrel
    obtain ⟨at_, sh⟩ := s
    have d3 := blk_cell hbC 3
    simp at d3
    have dT : wr.cell? ⟨T, o, none⟩ = some v := (blk_cell hbT o).trans (by simp [H0.out.2.2.1])
    by_cases hlt : j < n
    · have p1 : (0:Int) ≤ j := by omega
      have p2 : (j:Int) < n := by omega
      cases sh
      · have hmA : Mod No wr (wr.alloc (.cells #[.int .u32 0, .int .u32 0] 116)) := (Mod.refl _ _).alloc _
        have hmwA : Mod (fun b => b = C ∨ b = T) w (wr.alloc (.cells #[.int .u32 0, .int .u32 0] 116)) := hmw.alloc _
        have hc := HE.out (wr.alloc (.cells #[.int .u32 0, .int .u32 0] 116)) (at_, false) wr.heap.size hmwA (hmA.obj hbC id) hs8 (H0.out.2.2.2.2 _ hmwA) (at10 wr _) hmw.size
        have hnx : n - j = (n - (j + 1)) + 1 := by omega
        rw [hnx, rmany_step _ _ rfl] at hsp
        have hwl := hmw.size
        obtain ⟨y, hy⟩ : ∃ y, y = (rpr B (at_, false)).1 := ⟨_, rfl⟩
        obtain ⟨s2, hs2⟩ : ∃ s2, s2 = (rpr B (at_, false)).2 := ⟨_, rfl⟩
        have hs28 : s2.1 ≤ B.length := by rw [hs2]; exact rpr_le B (at_, false) hs8
        rw [← hy, ← hs2] at hc hsp
        have hlb : v.ownBlock ≠ some T := by
          intro e
          rcases hown.2 with ⟨rfl, _⟩ | ⟨g, cap, cur, rfl, hg, _⟩
          · simp [Value.ownBlock] at e
          · obtain rfl : g = T := by simpa [Value.ownBlock] using e
            omega
        have hlC' : v.ownBlock ≠ some C := by
          intro e
          rcases hown.2 with ⟨rfl, _⟩ | ⟨g, cap, cur, rfl, hg, _⟩
          · simp [Value.ownBlock] at e
          · obtain rfl : g = C := by simpa [Value.ownBlock] using e
            omega
        have hlX : v.ownBlock ≠ some wr.heap.size := by
          intro e
          rcases hown.2 with ⟨rfl, _⟩ | ⟨g, cap, cur, rfl, hg, hgg, _⟩
          · simp [Value.ownBlock] at e
          · obtain rfl : g = wr.heap.size := by simpa [Value.ownBlock] using e
            exact Nat.lt_irrefl _ (lt_of_block hgg)
        have HC := Lib.hid hc
        have HR := Lib.hid (And.intro hsp (And.intro hbT (And.intro hown (And.intro hmw (And.intro hs28 hbC)))))
        clear hc hsp hbC hbT hmA hmwA hs8 hy hs2 hown hs28
        go_wp2_with fail
        refine HC.out.mono ?_
        rintro e w5 ⟨rfl, k1, k2, k3⟩
        have g3 := k3.obj ((((Mod.refl No wr).alloc (.cells #[.int .u32 0, .int .u32 0] 116))).obj HR.out.2.1 id) (by rintro (f | f); exact h1 f; omega)
        have dT5 : w5.cell? ⟨T, o, none⟩ = some v := (blk_cell g3 o).trans (by simp [H0.out.2.2.1])
        have fT5 := blk_free g3 o
        have lT5 : T < w5.heap.size := lt_of_block g3
        have lX5 : wr.heap.size < w5.heap.size := lt_of_block k2
        have lC5 : C < w5.heap.size := lt_of_block k1
        have dX5 : w5.cell? ⟨wr.heap.size, 0, none⟩ = some (.int .u32 (y.a : Int)) := (blk_cell k2 0).trans rfl
        have dX6 : w5.cell? ⟨wr.heap.size, 1, none⟩ = some (.int .u32 (y.b : Int)) := (blk_cell k2 1).trans rfl
        have hown5 : w5.ownsRow w.heap.size 116 2 v acc.length (prCells acc) := own_mod (own_mod HR.out.2.2.1 ((Mod.refl No wr).alloc (.cells #[.int .u32 0, .int .u32 0] 116)) (fun _ _ f => f)) k3 (fun k hk f => by rcases f with f | f; exact hlC' (by rw [← f]; exact hk); exact hlX (by rw [← f]; exact hk))
        have hsz5 := k3.size
        have hacc8 : acc.length ≤ 1000 := by omega
        have H5 := Lib.hid (And.intro k1 (And.intro k3 (And.intro g3 (And.intro hown5 (And.intro hsz5 hacc8)))))
        clear k1 k2 k3 g3 hown5 hsz5 hacc8 d3 dT
        go_wp2_with fail
        go_region_law (first
          | (refine step_append_lies _ (by rfl) _ _ 31 (by rfl) w.heap.size 116 i0 _ 2 8 Try.underlying31 hi hz0 hz1 hz2 (by rfl) (by decide) v acc.length (prCells acc) (by rfl) ?_ _ _ _ (Pr.cells y) (by rfl) (by rfl) ?_ (by simp [Pr.cells, Value.oneCell']) (by decide) ?_ ?_ ?_ _ (by rfl) ?_;
             (exact own_mod H5.out.2.2.2.1 (by repeat (first | with_reducible exact Mod.refl _ _ | refine Mod.alloc ?_ _ | refine Mod.drew ?_)) (fun _ _ f => f));
             (exact World.news_of_block (at10 _ _));
             (have := H5.out.2.2.2.2.2; unfold maxLen; omega);
             (have := H5.out.2.2.2.2.2; omega);
             (have := H5.out.2.2.2.2.1; simp at this; simp; omega);
             intro g cap w6 own6 gr6 hat6 hlt6;
             have m6 : Mod (fun b => v.ownBlock = some b) w5 w6 := Mod.grown (((Mod.refl _ w5)).mono (fun _ f => f) |> (fun h => by repeat (first | with_reducible exact h | refine Mod.alloc ?_ _ | refine Mod.drew ?_))) gr6 (fun k hk => .inr hk);
             have fT6 := blk_free (m6.obj H5.out.2.2.1 hlb) o; have dT6 : w6.cell? ⟨T, o, none⟩ = some v := (blk_cell (m6.obj H5.out.2.2.1 hlb) o).trans (by simp [H0.out.2.2.1]); have H6 := Lib.hid (And.intro own6 (And.intro m6 hat6)); clear own6 m6 hat6 gr6))
        all_goals
          go_wp2
          have hT6 := H6.out.2.1.obj H5.out.2.2.1 hlb
          refine ⟨⟨j + 1, acc ++ [y], s2, .slice (some ⟨g, 0, none⟩) (acc.length + 1) cap, by go_num, by omega, ?_, ?_, HR.out.2.2.2.2.1, ?_, ?_, ?_, ?_⟩, by simp [intOf]; omega⟩
          · simp; omega
          · rw [HR.out.1]; simp
          · rw [heap_setCell_ne _ _ (fun e => h1 e.symm)]; exact H6.out.2.1.obj H5.out.1 hlC'
          · rw [heap_setCell_row hT6]; simp
          · refine own_mod (F := fun b => b = T) ?_ (Mod.setCell (p := ⟨T, o, none⟩) (Mod.refl (fun b => b = T) w6) (.inr rfl) _) (fun k hk f => ?_)
            · have := H6.out.1
              simpa [prCells] using this
            · subst f
              obtain rfl : g = k := by simpa [Value.ownBlock] using hk
              rcases H6.out.2.2 with f | f
              · exact hlb f
              · have := H5.out.2.2.2.2.1; simp at f this; omega
          · refine Mod.setCell ?_ (.inr (.inr rfl)) _
            have m5 : Mod (fun b => b = C ∨ b = T) w w5 := (HR.out.2.2.2.1.alloc (.cells #[.int .u32 0, .int .u32 0] 116)).trans' H5.out.2.1 (fun i hi f => by rcases f with f | f; exact .inl f; omega)
            refine m5.trans' H6.out.2.1 (fun i hi f => ?_)
            rcases HR.out.2.2.1.2 with ⟨rfl, _⟩ | ⟨g', cap', cur', rfl, hg', _⟩
            · simp [Value.ownBlock] at f
            · obtain rfl : g' = i := by simpa [Value.ownBlock] using f
              omega
      · have HR := Lib.hid (And.intro hsp (And.intro hbC (And.intro hbT (And.intro hown hmw))))
        clear hsp hbC hbT hown hmw
        go_wp2
        first | go_end0 | (simp only [Exit.inBlock, Exit.then]; refine bodyPost_ret (results_none rfl _ _ _) rfl ?_) | refine bodyPost_ret (results_none rfl _ _ _) rfl ?_
        obtain ⟨h5, h6, h7, h8, h9⟩ := HR.out
        rw [rmany_short (rpr B) (n - j) (s := (at_, true)) rfl] at h5
        rw [h5]
        exact ⟨rfl, h6, ⟨v, h7, by simpa using h8⟩, h9⟩
    · obtain rfl : n = j := by omega
      have HR := Lib.hid (And.intro hsp (And.intro hbC (And.intro hbT (And.intro hown hmw))))
      clear hsp hbC hbT hown hmw
      go_wp2
      first | go_end0 | (simp only [Exit.inBlock, Exit.then]; refine bodyPost_ret (results_none rfl _ _ _) rfl ?_) | refine bodyPost_ret (results_none rfl _ _ _) rfl ?_
      obtain ⟨h5, h6, h7, h8, h9⟩ := HR.out
      rw [Nat.sub_self] at h5
      rw [h5]
      exact ⟨rfl, h6, ⟨v, h7, by simpa [rmany] using h8⟩, h9⟩
end

section
attribute [local go_sem] stPair gtPair gtK8 gtM6 run_store_func
attribute [local go_sem high] neqPair eqK8 eqM6
open Go.RowKit
set_option linter.unusedVariables false
def M6.of (l : List UInt8) : M6 := ⟨l.getD 0 0, l.getD 1 0, l.getD 2 0, l.getD 3 0, l.getD 4 0, l.getD 5 0⟩
def K8.of (l : List UInt8) : K8 := ⟨l.getD 0 0, l.getD 1 0, l.getD 2 0, l.getD 3 0, l.getD 4 0, l.getD 5 0, l.getD 6 0, l.getD 7 0⟩
/-- A tenant that is being read: its fields so far, the three counts, the reader's state. -/
structure RS where
  t : Ten
  np : Nat
  ns : Nat
  nt : Nat
  s : St
def rsteps (B : List UInt8) : List (RS → RS) := [
  fun r => { r with t := { r.t with name := (rname B r.s).1 }, s := (rname B r.s).2 },
  fun r => { r with t := { r.t with vni := (rnum B 4 r.s).1 }, s := (rnum B 4 r.s).2 },
  fun r => { r with t := { r.t with key := K8.of (rtake B r.s 8).1 }, s := (rtake B r.s 8).2 },
  fun r => { r with t := { r.t with vtep := (rnum B 4 r.s).1 }, s := (rnum B 4 r.s).2 },
  fun r => { r with t := { r.t with vmac := M6.of (rtake B r.s 6).1 }, s := (rtake B r.s 6).2 },
  fun r => { r with t := { r.t with host := M6.of (rtake B r.s 6).1 }, s := (rtake B r.s 6).2 },
  fun r => { r with t := { r.t with lo := (rnum B 2 r.s).1 }, s := (rnum B 2 r.s).2 },
  fun r => { r with t := { r.t with hi := (rnum B 2 r.s).1 }, s := (rnum B 2 r.s).2 },
  fun r => { r with t := { r.t with filter := (rnum B 1 r.s).1 }, s := (rnum B 1 r.s).2 },
  fun r => { r with t := { r.t with sess := (rnum B 2 r.s).1 }, s := (rnum B 2 r.s).2 },
  fun r => { r with t := { r.t with queue := (rnum B 2 r.s).1 }, s := (rnum B 2 r.s).2 },
  fun r => { r with t := { r.t with rate := (rnum B 4 r.s).1 }, s := (rnum B 4 r.s).2 },
  fun r => { r with t := { r.t with burst := (rnum B 4 r.s).1 }, s := (rnum B 4 r.s).2 },
  fun r => { r with np := (rnum B 1 r.s).1, s := (rnum B 1 r.s).2 },
  fun r => { r with ns := (rnum B 1 r.s).1, s := (rnum B 1 r.s).2 },
  fun r => { r with nt := (rnum B 1 r.s).1, s := (rnum B 1 r.s).2 },
  fun r => { r with t := { r.t with pool := (rmany (rnum B 4) r.np r.s).1 }, s := (rmany (rnum B 4) r.np r.s).2 },
  fun r => { r with t := { r.t with statics := (rmany (rpr B) r.ns r.s).1 }, s := (rmany (rpr B) r.ns r.s).2 },
  fun r => { r with t := { r.t with twices := (rmany (rpr B) r.nt r.s).1 }, s := (rmany (rpr B) r.nt r.s).2 }]
def rk (B : List UInt8) (s : St) (k : Nat) : RS := ((rsteps B).take k).foldl (fun r f => f r) ⟨.zero, 0, 0, 0, s⟩
def rten (B : List UInt8) (s : St) : Ten × St := ((rk B s 19).t, (rk B s 19).s)
end

section
attribute [local go_sem] stPair gtPair gtK8 gtM6 run_store_func
attribute [local go_sem high] neqPair eqK8 eqM6
open Go.RowKit
set_option linter.unusedVariables false
set_option maxRecDepth 100000 in
theorem each_u32_rd {S : Nat → Prop} {w : World} {C : Nat} {A : Option Addr} {c : Nat} {s0 : St} (B : List UInt8) (hb : w.heap[C]? = some (rdObj A B.length c s0.1 s0.2)) (hrow : RowAt S w A (bcells B)) (hat : s0.1 ≤ B.length) (hc : B.length ≤ c) (hB : B.length ≤ 100000000) (hS : ¬ S C) {bc X : Nat} (hbc : w.heap[bc]? = some (.cells #[.pointer (some ⟨C, 0, none⟩)] 98 (0, 0))) (hX : w.heap[X]? = some (.cells #[.int .u32 0] 26 (0, 0))) (hXC : X ≠ C) :
    Calls Try.prog 80 #[.pointer (some ⟨X, 0, none⟩), .pointer (some ⟨bc, 0, none⟩)] w fun e w' => e = .returned (.tuple #[]) ∧ w'.heap[C]? = some (rdObj A B.length c (rnum B 4 s0).2.1 (rnum B 4 s0).2.2) ∧ w'.heap[X]? = some (.cells [Value.int .u32 ((rnum B 4 s0).1 : Int)].toArray 26 (0, 0)) ∧ Mod (fun b => b = C ∨ b = X) w w' := by
  have HD := Lib.hid (num_u32_rd B hb hrow hat hc hB 4 (by decide) hS (T := X) (o := 0) hX (by decide) hXC)
  have c0 := blk_cell hbc 0
  simp at c0
  clear hb hrow hat hc hB hS hbc hX hXC
  go_enter Try.func80, Try.ntmps80
  go_wp2_with (first | (go_at_call 57; refine HD.out.mono ?_; rintro e w1 ⟨rfl, hr⟩; have HW := Lib.hid hr; clear hr) | fail)
  go_end0
  exact ⟨rfl, HW.out.1, by simpa [rnum] using HW.out.2.1, HW.out.2.2⟩
set_option maxRecDepth 100000 in
theorem each_pr_rd {S : Nat → Prop} {w : World} {C : Nat} {A : Option Addr} {c : Nat} {s0 : St} (B : List UInt8) (hb : w.heap[C]? = some (rdObj A B.length c s0.1 s0.2)) (hrow : RowAt S w A (bcells B)) (hat : s0.1 ≤ B.length) (hc : B.length ≤ c) (hB : B.length ≤ 100000000) (hS : ¬ S C) {bc X : Nat} (hbc : w.heap[bc]? = some (.cells #[.pointer (some ⟨C, 0, none⟩)] 98 (0, 0))) (hX : w.heap[X]? = some (.cells #[.int .u32 0, .int .u32 0] 116 (0, 0))) (hXC : X ≠ C) (hbC : bc ≠ C) (hSX : ¬ S X) (hbX : bc ≠ X) :
    Calls Try.prog 56 #[.pointer (some ⟨X, 0, none⟩), .pointer (some ⟨bc, 0, none⟩)] w fun e w' => e = .returned (.tuple #[]) ∧ w'.heap[C]? = some (rdObj A B.length c (rpr B s0).2.1 (rpr B s0).2.2) ∧ w'.heap[X]? = some (.cells (rpr B s0).1.cells.toArray 116 (0, 0)) ∧ Mod (fun b => b = C ∨ b = X) w w' := by
  have hd1 : ∀ W1, W1 = w.drew → Calls Try.prog 57 #[.pointer (some ⟨C, 0, none⟩), .int .i64 4, .pointer (some ⟨X, 0, none⟩)] W1 fun e w' => e = .returned (.tuple #[]) ∧ w'.cell? ⟨bc, 0, none⟩ = some (.pointer (some ⟨C, 0, none⟩)) ∧
      ∀ W2, W2 = w'.drew → Calls Try.prog 57 #[.pointer (some ⟨C, 0, none⟩), .int .i64 4, .pointer (some ⟨X, 1, none⟩)] W2 fun e w'' => e = .returned (.tuple #[]) ∧ w''.heap[C]? = some (rdObj A B.length c (rpr B s0).2.1 (rpr B s0).2.2) ∧ w''.heap[X]? = some (.cells (rpr B s0).1.cells.toArray 116 (0, 0)) ∧ Mod (fun b => b = C ∨ b = X) w w'' := by
    intro W1 hW1
    subst hW1
    have hkd : Keeps S w w.drew := Mod.keeps (Mod.drew (Mod.refl No w)) (fun _ _ _ f => f)
    refine (num_u32_rd (w := w.drew) B hb (hrow.keeps hkd) hat hc hB 4 (by decide) hS (T := X) (o := 0) hX (by decide) hXC).mono fun e w' ⟨he, a1, a2, a3⟩ => ?_
    have m1 : Mod (fun b => b = C ∨ b = X) w w' := (Mod.refl _ w).drew.trans a3
    refine ⟨he, (blk_cell (m1.obj hbc (by rintro (f | f); exact hbC f; exact hbX f)) 0).trans rfl, fun W2 hW2 => ?_⟩
    subst hW2
    have hr2 : RowAt S w'.drew A (bcells B) := hrow.keeps ((m1.drew).keeps (fun b _ hs f => by rcases f with f | f; exact hS (by subst f; exact hs); exact hSX (by subst f; exact hs)))
    refine (num_u32_rd (w := w'.drew) B a1 hr2 (rtake_le B _ 4 hat) hc hB 4 (by decide) hS (T := X) (o := 1) a2 (by simp) hXC).mono fun e w'' ⟨he, b1, b2, b3⟩ => ⟨he, b1, ?_, (m1.drew).trans b3⟩
    rw [b2]
    simp [rpr, rnum, Pr.cells]
  have c0 := blk_cell hbc 0
  simp at c0
  have HD := Lib.hid hd1
  obtain ⟨R, hR⟩ : ∃ R : World → Prop, R = fun w'' => w''.heap[C]? = some (rdObj A B.length c (rpr B s0).2.1 (rpr B s0).2.2) ∧ w''.heap[X]? = some (.cells (rpr B s0).1.cells.toArray 116 (0, 0)) ∧ Mod (fun b => b = C ∨ b = X) w w'' := ⟨_, rfl⟩
  have hd2 : ∀ W1, W1 = w.drew → Calls Try.prog 57 #[.pointer (some ⟨C, 0, none⟩), .int .i64 4, .pointer (some ⟨X, 0, none⟩)] W1 fun e w' => e = .returned (.tuple #[]) ∧ w'.cell? ⟨bc, 0, none⟩ = some (.pointer (some ⟨C, 0, none⟩)) ∧
      ∀ W2, W2 = w'.drew → Calls Try.prog 57 #[.pointer (some ⟨C, 0, none⟩), .int .i64 4, .pointer (some ⟨X, 1, none⟩)] W2 fun e w'' => e = .returned (.tuple #[]) ∧ R w'' := by rw [hR]; exact hd1
  suffices hs : Calls Try.prog 56 #[.pointer (some ⟨X, 0, none⟩), .pointer (some ⟨bc, 0, none⟩)] w fun e w' => e = .returned (.tuple #[]) ∧ R w' by
    rw [hR] at hs; exact hs
  have HD := Lib.hid hd2
  clear hb hrow hat hc hB hS hbc hX hXC hbC hSX hbX hd1 hd2 hR
  go_enter Try.func56, Try.ntmps56
  go_wp2_with fail
  go_region_law (first | (go_simp; go_at_call 57; refine (HD.out _ rfl).mono ?_; rintro e w1 ⟨rfl, d0, hr⟩; have H2 := Lib.hid hr; clear hr))
  all_goals
    go_wp2_with fail
    go_region_law (first | (go_simp; go_at_call 57; refine (H2.out _ rfl).mono ?_; rintro e w2 ⟨rfl, hr⟩; have HW := Lib.hid hr; clear hr))
  all_goals
    go_wp2
    first | go_end0 | (simp only [Exit.inBlock, Exit.then]; refine bodyPost_ret (results_none rfl _ _ _) rfl ?_) | refine bodyPost_ret (results_none rfl _ _ _) rfl ?_
    exact ⟨rfl, HW.out⟩
set_option maxRecDepth 100000 in
theorem ten_lpool_rd {S : Nat → Prop} {w : World} {C : Nat} {A : Option Addr} {c : Nat} {s0 : St} (B : List UInt8) (hb : w.heap[C]? = some (rdObj A B.length c s0.1 s0.2)) (hrow : RowAt S w A (bcells B)) (hat : s0.1 ≤ B.length) (hc : B.length ≤ c) (hB : B.length ≤ 100000000) (hS : ¬ S C) {bc bt bp T o n : Nat} (hST : ¬ S T) (hx : Boxes w bc bt C T o) (hbC : bc ≠ C) (hbT : bc ≠ T) (hn : n ≤ 1000) (hSn : ∀ b, S b → b < w.heap.size) (hp : w.heap[bp]? = some (.cells #[.int .i64 (n : Int)] 3 (0, 0)))
    {cs : Array Value} {t : TypeId} (hT : w.heap[T]? = some (.cells cs t (0, 0))) (ho : o + 23 < cs.size) (h1 : T ≠ C) :
    Calls Try.prog 78 #[.pointer (some ⟨bc, 0, none⟩), .pointer (some ⟨bp, 0, none⟩), .pointer (some ⟨bt, 0, none⟩)] w fun e w' => e = .returned (.tuple #[]) ∧ w'.heap[C]? = some (rdObj A B.length c (rmany (rnum B 4) n s0).2.1 (rmany (rnum B 4) n s0).2.2) ∧
      (∃ v, w'.heap[T]? = some (.cells (cs.setIfInBounds (o + 23) v) t (0, 0)) ∧ w'.ownsRow w.heap.size 26 1 v (rmany (rnum B 4) n s0).1.length (numCells (rmany (rnum B 4) n s0).1)) ∧ Mod (fun b => b = C ∨ b = T) w w' := by
  obtain ⟨R, hR⟩ : ∃ R : World → Prop, R = fun w' => w'.heap[C]? = some (rdObj A B.length c (rmany (rnum B 4) n s0).2.1 (rmany (rnum B 4) n s0).2.2) ∧
      (∃ v, w'.heap[T]? = some (.cells (cs.setIfInBounds (o + 23) v) t (0, 0)) ∧ w'.ownsRow w.heap.size 26 1 v (rmany (rnum B 4) n s0).1.length (numCells (rmany (rnum B 4) n s0).1)) ∧ Mod (fun b => b = C ∨ b = T) w w' := ⟨_, rfl⟩
  have hd : ∀ W, W = w.drew → Calls Try.prog 79 #[.pointer (some ⟨C, 0, none⟩), .int .i64 n, .pointer (some ⟨T, o + 23, none⟩), .func (.func 80) #[] #[.pointer (some ⟨bc, 0, none⟩)]] W fun e w' => e = .returned (.tuple #[]) ∧ R w' := by
    intro W hW
    subst hW
    rw [hR]
    refine (list_u32_rd (w := w.drew) (S := S) B hb (hrow.keeps (Mod.keeps (Mod.drew (Mod.refl No w)) (fun _ _ _ f => f))) hat hS (T := T) (o := o + 23) hST hT ho h1 n hn 80 (.pointer (some ⟨bc, 0, none⟩)) (fun a W => by go_simp)
      (fun W s X hm hC hs hr hX hXs => ?_)).mono fun e w' ⟨e1, e2, e3, e4⟩ => ⟨e1, e2, e3, (Mod.refl _ w).drew.trans e4⟩
    have hXs' : w.heap.size ≤ X := hXs
    have hlC := lt_of_block hb
    have hbcW := hm.obj (w := w.drew) hx.c (by rintro (f | f); exact hbC f; exact hbT f)
    have hlb := lt_of_block hx.c
    exact each_u32_rd B hC hr hs hc hB hS hbcW hX (by omega)
  have c0 := blk_cell hx.c 0
  have c1 := blk_cell hx.t 0
  have c2 := blk_cell hp 0
  simp at c0 c1 c2
  suffices hs : Calls Try.prog 78 #[.pointer (some ⟨bc, 0, none⟩), .pointer (some ⟨bp, 0, none⟩), .pointer (some ⟨bt, 0, none⟩)] w fun e w' => e = .returned (.tuple #[]) ∧ R w' by
    rw [hR] at hs; exact hs
  have HD := Lib.hid hd
  clear hb hrow hat hc hB hS hx hT ho hd hR hp hbC hbT hn h1 hST hSn
  go_enter Try.func78, Try.ntmps78
  go_wp2_with fail
  go_region_law (first | (go_simp; go_at_call 79; refine (HD.out _ rfl).mono ?_; rintro e w1 ⟨rfl, hr⟩; have HW := Lib.hid hr; clear hr))
  all_goals
    go_wp2
    first | go_end0 | (simp only [Exit.inBlock, Exit.then]; refine bodyPost_ret (results_none rfl _ _ _) rfl ?_) | refine bodyPost_ret (results_none rfl _ _ _) rfl ?_
    exact ⟨rfl, HW.out⟩
set_option maxRecDepth 100000 in
theorem ten_lstatics_rd {S : Nat → Prop} {w : World} {C : Nat} {A : Option Addr} {c : Nat} {s0 : St} (B : List UInt8) (hb : w.heap[C]? = some (rdObj A B.length c s0.1 s0.2)) (hrow : RowAt S w A (bcells B)) (hat : s0.1 ≤ B.length) (hc : B.length ≤ c) (hB : B.length ≤ 100000000) (hS : ¬ S C) {bc bt bp bq T o n : Nat} (hST : ¬ S T) (hx : Boxes w bc bt C T o) (hbC : bc ≠ C) (hbT : bc ≠ T) (hn : n ≤ 1000) (hSn : ∀ b, S b → b < w.heap.size) (hp : w.heap[bp]? = some (.cells #[.int .i64 (n : Int)] 3 (0, 0))) (hq : w.heap[bq]? = some (.cells #[.func (.func 56) #[] #[.pointer (some ⟨bc, 0, none⟩)]] 117 (0, 0)))
    {cs : Array Value} {t : TypeId} (hT : w.heap[T]? = some (.cells cs t (0, 0))) (ho : o + 27 < cs.size) (h1 : T ≠ C) :
    Calls Try.prog 81 #[.pointer (some ⟨bc, 0, none⟩), .pointer (some ⟨bp, 0, none⟩), .pointer (some ⟨bt, 0, none⟩), .pointer (some ⟨bq, 0, none⟩)] w fun e w' => e = .returned (.tuple #[]) ∧ w'.heap[C]? = some (rdObj A B.length c (rmany (rpr B) n s0).2.1 (rmany (rpr B) n s0).2.2) ∧
      (∃ v, w'.heap[T]? = some (.cells (cs.setIfInBounds (o + 27) v) t (0, 0)) ∧ w'.ownsRow w.heap.size 116 2 v (rmany (rpr B) n s0).1.length (prCells (rmany (rpr B) n s0).1)) ∧ Mod (fun b => b = C ∨ b = T) w w' := by
  obtain ⟨R, hR⟩ : ∃ R : World → Prop, R = fun w' => w'.heap[C]? = some (rdObj A B.length c (rmany (rpr B) n s0).2.1 (rmany (rpr B) n s0).2.2) ∧
      (∃ v, w'.heap[T]? = some (.cells (cs.setIfInBounds (o + 27) v) t (0, 0)) ∧ w'.ownsRow w.heap.size 116 2 v (rmany (rpr B) n s0).1.length (prCells (rmany (rpr B) n s0).1)) ∧ Mod (fun b => b = C ∨ b = T) w w' := ⟨_, rfl⟩
  have hd : ∀ W, W = w.drew → Calls Try.prog 82 #[.pointer (some ⟨C, 0, none⟩), .int .i64 n, .pointer (some ⟨T, o + 27, none⟩), .func (.func 56) #[] #[.pointer (some ⟨bc, 0, none⟩)]] W fun e w' => e = .returned (.tuple #[]) ∧ R w' := by
    intro W hW
    subst hW
    rw [hR]
    refine (list_pr_rd (w := w.drew) (S := S) B hb (hrow.keeps (Mod.keeps (Mod.drew (Mod.refl No w)) (fun _ _ _ f => f))) hat hS (T := T) (o := o + 27) hST hT ho h1 n hn 56 (.pointer (some ⟨bc, 0, none⟩)) (fun a W => by go_simp)
      (fun W s X hm hC hs hr hX hXs => ?_)).mono fun e w' ⟨e1, e2, e3, e4⟩ => ⟨e1, e2, e3, (Mod.refl _ w).drew.trans e4⟩
    have hXs' : w.heap.size ≤ X := hXs
    have hlC := lt_of_block hb
    have hbcW := hm.obj (w := w.drew) hx.c (by rintro (f | f); exact hbC f; exact hbT f)
    have hlb := lt_of_block hx.c
    exact each_pr_rd B hC hr hs hc hB hS hbcW hX (by omega) hbC (fun f => by have := hSn X f; omega) (by omega)
  have c0 := blk_cell hx.c 0
  have c1 := blk_cell hx.t 0
  have c2 := blk_cell hp 0
  have c3 := blk_cell hq 0
  simp at c0 c1 c2 c3
  suffices hs : Calls Try.prog 81 #[.pointer (some ⟨bc, 0, none⟩), .pointer (some ⟨bp, 0, none⟩), .pointer (some ⟨bt, 0, none⟩), .pointer (some ⟨bq, 0, none⟩)] w fun e w' => e = .returned (.tuple #[]) ∧ R w' by
    rw [hR] at hs; exact hs
  have HD := Lib.hid hd
  clear hb hrow hat hc hB hS hx hT ho hd hR hp hbC hbT hn h1 hST hSn hq
  go_enter Try.func81, Try.ntmps81
  go_wp2_with fail
  go_region_law (first | (go_simp; go_at_call 82; refine (HD.out _ rfl).mono ?_; rintro e w1 ⟨rfl, hr⟩; have HW := Lib.hid hr; clear hr))
  all_goals
    go_wp2
    first | go_end0 | (simp only [Exit.inBlock, Exit.then]; refine bodyPost_ret (results_none rfl _ _ _) rfl ?_) | refine bodyPost_ret (results_none rfl _ _ _) rfl ?_
    exact ⟨rfl, HW.out⟩
set_option maxRecDepth 100000 in
theorem ten_ltwices_rd {S : Nat → Prop} {w : World} {C : Nat} {A : Option Addr} {c : Nat} {s0 : St} (B : List UInt8) (hb : w.heap[C]? = some (rdObj A B.length c s0.1 s0.2)) (hrow : RowAt S w A (bcells B)) (hat : s0.1 ≤ B.length) (hc : B.length ≤ c) (hB : B.length ≤ 100000000) (hS : ¬ S C) {bc bt bp bq T o n : Nat} (hST : ¬ S T) (hx : Boxes w bc bt C T o) (hbC : bc ≠ C) (hbT : bc ≠ T) (hn : n ≤ 1000) (hSn : ∀ b, S b → b < w.heap.size) (hp : w.heap[bp]? = some (.cells #[.int .i64 (n : Int)] 3 (0, 0))) (hq : w.heap[bq]? = some (.cells #[.func (.func 56) #[] #[.pointer (some ⟨bc, 0, none⟩)]] 117 (0, 0)))
    {cs : Array Value} {t : TypeId} (hT : w.heap[T]? = some (.cells cs t (0, 0))) (ho : o + 28 < cs.size) (h1 : T ≠ C) :
    Calls Try.prog 83 #[.pointer (some ⟨bc, 0, none⟩), .pointer (some ⟨bp, 0, none⟩), .pointer (some ⟨bt, 0, none⟩), .pointer (some ⟨bq, 0, none⟩)] w fun e w' => e = .returned (.tuple #[]) ∧ w'.heap[C]? = some (rdObj A B.length c (rmany (rpr B) n s0).2.1 (rmany (rpr B) n s0).2.2) ∧
      (∃ v, w'.heap[T]? = some (.cells (cs.setIfInBounds (o + 28) v) t (0, 0)) ∧ w'.ownsRow w.heap.size 116 2 v (rmany (rpr B) n s0).1.length (prCells (rmany (rpr B) n s0).1)) ∧ Mod (fun b => b = C ∨ b = T) w w' := by
  obtain ⟨R, hR⟩ : ∃ R : World → Prop, R = fun w' => w'.heap[C]? = some (rdObj A B.length c (rmany (rpr B) n s0).2.1 (rmany (rpr B) n s0).2.2) ∧
      (∃ v, w'.heap[T]? = some (.cells (cs.setIfInBounds (o + 28) v) t (0, 0)) ∧ w'.ownsRow w.heap.size 116 2 v (rmany (rpr B) n s0).1.length (prCells (rmany (rpr B) n s0).1)) ∧ Mod (fun b => b = C ∨ b = T) w w' := ⟨_, rfl⟩
  have hd : ∀ W, W = w.drew → Calls Try.prog 82 #[.pointer (some ⟨C, 0, none⟩), .int .i64 n, .pointer (some ⟨T, o + 28, none⟩), .func (.func 56) #[] #[.pointer (some ⟨bc, 0, none⟩)]] W fun e w' => e = .returned (.tuple #[]) ∧ R w' := by
    intro W hW
    subst hW
    rw [hR]
    refine (list_pr_rd (w := w.drew) (S := S) B hb (hrow.keeps (Mod.keeps (Mod.drew (Mod.refl No w)) (fun _ _ _ f => f))) hat hS (T := T) (o := o + 28) hST hT ho h1 n hn 56 (.pointer (some ⟨bc, 0, none⟩)) (fun a W => by go_simp)
      (fun W s X hm hC hs hr hX hXs => ?_)).mono fun e w' ⟨e1, e2, e3, e4⟩ => ⟨e1, e2, e3, (Mod.refl _ w).drew.trans e4⟩
    have hXs' : w.heap.size ≤ X := hXs
    have hlC := lt_of_block hb
    have hbcW := hm.obj (w := w.drew) hx.c (by rintro (f | f); exact hbC f; exact hbT f)
    have hlb := lt_of_block hx.c
    exact each_pr_rd B hC hr hs hc hB hS hbcW hX (by omega) hbC (fun f => by have := hSn X f; omega) (by omega)
  have c0 := blk_cell hx.c 0
  have c1 := blk_cell hx.t 0
  have c2 := blk_cell hp 0
  have c3 := blk_cell hq 0
  simp at c0 c1 c2 c3
  suffices hs : Calls Try.prog 83 #[.pointer (some ⟨bc, 0, none⟩), .pointer (some ⟨bp, 0, none⟩), .pointer (some ⟨bt, 0, none⟩), .pointer (some ⟨bq, 0, none⟩)] w fun e w' => e = .returned (.tuple #[]) ∧ R w' by
    rw [hR] at hs; exact hs
  have HD := Lib.hid hd
  clear hb hrow hat hc hB hS hx hT ho hd hR hp hbC hbT hn h1 hST hSn hq
  go_enter Try.func83, Try.ntmps83
  go_wp2_with fail
  go_region_law (first | (go_simp; go_at_call 82; refine (HD.out _ rfl).mono ?_; rintro e w1 ⟨rfl, hr⟩; have HW := Lib.hid hr; clear hr))
  all_goals
    go_wp2
    first | go_end0 | (simp only [Exit.inBlock, Exit.then]; refine bodyPost_ret (results_none rfl _ _ _) rfl ?_) | refine bodyPost_ret (results_none rfl _ _ _) rfl ?_
    exact ⟨rfl, HW.out⟩
end

section
attribute [local go_sem] stPair gtPair gtK8 gtM6 run_store_func
attribute [local go_sem high] neqPair eqK8 eqM6
open Go.RowKit
set_option linter.unusedVariables false
theorem splice_mid {pre X post : List Value} {o j : Nat} (ho : pre.length = o) (ys : List Value) (hj : j + ys.length ≤ X.length) : splice (pre ++ X ++ post) (o + j) ys = pre ++ splice X j ys ++ post := by
  unfold splice
  subst ho
  simp only [List.append_assoc, Nat.add_assoc]
  rw [List.take_length_add_append, List.drop_length_add_append, List.take_append_of_le_length (by omega), List.drop_append_of_le_length (by omega)]
  simp only [List.append_assoc]
theorem key_splice (t : Ten) (vp vs vt : Value) (xs : List UInt8) (h : xs.length = 8) : splice (t.cells vp vs vt).toList 2 (bcells xs) = (({ t with key := K8.of xs } : Ten).cells vp vs vt).toList := by
  match xs, h with
  | [a, b, c, d, e, f, g, i], _ => rfl
theorem vmac_splice (t : Ten) (vp vs vt : Value) (xs : List UInt8) (h : xs.length = 6) : splice (t.cells vp vs vt).toList 11 (bcells xs) = (({ t with vmac := M6.of xs } : Ten).cells vp vs vt).toList := by
  match xs, h with
  | [a, b, c, d, e, f], _ => rfl
theorem host_splice (t : Ten) (vp vs vt : Value) (xs : List UInt8) (h : xs.length = 6) : splice (t.cells vp vs vt).toList 17 (bcells xs) = (({ t with host := M6.of xs } : Ten).cells vp vs vt).toList := by
  match xs, h with
  | [a, b, c, d, e, f], _ => rfl
/-- What the call was given, and the walk's first world. -/
structure RG (w0 : World) (n C T o : Nat) (A : Option Addr) (c : Nat) (B : List UInt8) (S : Nat → Prop) (pre : List Value) : Prop where
  bx : Boxes w0 n (n + 1) C T o
  pr : w0.heap[n + 5]? = some (.cells #[.func (.func 56) #[] #[bxv n]] 117 (0, 0))
  rw6 : w0.heap[n + 6]? = some (.cells (tenRow n).toArray 1 (0, 0))
  C_lt : C < n
  T_lt : T < n
  TC : T ≠ C
  ho : pre.length = o
  row : RowAt S w0 A (bcells B)
  S_lt : ∀ b, S b → b < n
  SC : ¬ S C
  ST : ¬ S T
  hc : B.length ≤ c
  hB : B.length ≤ 100000000
/-- The state behind some steps. -/
structure TR (w0 : World) (n C T : Nat) (A : Option Addr) (c : Nat) (B : List UInt8) (pre post : List Value) (tt : TypeId) (r : RS) (vp vs vt : Value) (w : World) : Prop where
  rd : w.heap[C]? = some (rdObj A B.length c r.s.1 r.s.2)
  le : r.s.1 ≤ B.length
  ten : w.heap[T]? = some (.cells (pre ++ (r.t.cells vp vs vt).toList ++ post).toArray tt (0, 0))
  mod : Mod (fun b => b = C ∨ b = T ∨ n + 2 ≤ b ∧ b ≤ n + 4) w0 w
  hp : w.heap[n + 2]? = some (.cells #[.int .i64 (r.np : Int)] 3 (0, 0))
  hs : w.heap[n + 3]? = some (.cells #[.int .i64 (r.ns : Int)] 3 (0, 0))
  ht : w.heap[n + 4]? = some (.cells #[.int .i64 (r.nt : Int)] 3 (0, 0))
  cnt : r.np < 256 ∧ r.ns < 256 ∧ r.nt < 256
  rows : ∃ P p Q q R r', vp = .slice P r.t.pool.length p ∧ vs = .slice Q r.t.statics.length q ∧ vt = .slice R r.t.twices.length r' ∧ RowAt (fun b => n + 7 ≤ b) w P (numCells r.t.pool) ∧ RowAt (fun b => n + 7 ≤ b) w Q (prCells r.t.statics) ∧ RowAt (fun b => n + 7 ≤ b) w R (prCells r.t.twices)
section
variable {w0 : World} {n C T o : Nat} {A : Option Addr} {c : Nat} {B : List UInt8} {S : Nat → Prop} {pre post : List Value} {tt : TypeId} {r : RS} {vp vs vt : Value} {w : World}
theorem RG.gt (g : RG w0 n C T o A c B S pre) : n + 6 < w0.heap.size := lt_of_block g.rw6
theorem TR.keep (h : TR w0 n C T A c B pre post tt r vp vs vt w) (g : RG w0 n C T o A c B S pre) {b : Nat} {ob : Obj} (hb : w0.heap[b]? = some ob) (h1 : n ≤ b) (h2 : b < n + 2 ∨ n + 4 < b) : w.heap[b]? = some ob := by
  refine h.mod.obj hb ?_
  have := g.C_lt
  have := g.T_lt
  rintro (f | f | f) <;> omega
theorem TR.boxes (h : TR w0 n C T A c B pre post tt r vp vs vt w) (g : RG w0 n C T o A c B S pre) : Boxes w n (n + 1) C T o := ⟨h.keep g g.bx.c (by omega) (by omega), h.keep g g.bx.t (by omega) (by omega)⟩
theorem TR.row (h : TR w0 n C T A c B pre post tt r vp vs vt w) (g : RG w0 n C T o A c B S pre) : RowAt S w A (bcells B) := g.row.keeps (h.mod.keeps fun b hb hs f => by
  have := g.S_lt b hs
  rcases f with f | f | f
  · exact g.SC (by rw [← f]; exact hs)
  · exact g.ST (by rw [← f]; exact hs)
  · omega)
theorem TR.mod' (h : TR w0 n C T A c B pre post tt r vp vs vt w) {w' : World} (hm : Mod (fun b => b = C ∨ b = T) w w') : Mod (fun b => b = C ∨ b = T ∨ n + 2 ≤ b ∧ b ≤ n + 4) w0 w' :=
  h.mod.trans (hm.mono fun b f => by rcases f with f | f; exact .inl f; exact .inr (.inl f))
theorem TR.rows' (h : TR w0 n C T A c B pre post tt r vp vs vt w) (g : RG w0 n C T o A c B S pre) {w' : World} (hm : Mod (fun b => b < n + 7) w w') :
    ∃ P p Q q R r', vp = .slice P r.t.pool.length p ∧ vs = .slice Q r.t.statics.length q ∧ vt = .slice R r.t.twices.length r' ∧ RowAt (fun b => n + 7 ≤ b) w' P (numCells r.t.pool) ∧ RowAt (fun b => n + 7 ≤ b) w' Q (prCells r.t.statics) ∧ RowAt (fun b => n + 7 ≤ b) w' R (prCells r.t.twices) := by
  obtain ⟨P, p, Q, q, R, r', e1, e2, e3, r1, r2, r3⟩ := h.rows
  have hk : Keeps (fun b => n + 7 ≤ b) w w' := hm.keeps fun b hb hs f => by omega
  exact ⟨P, p, Q, q, R, r', e1, e2, e3, r1.keeps hk, r2.keeps hk, r3.keeps hk⟩
/-- A step that turns the coder and one field. -/
theorem TR.next (h : TR w0 n C T A c B pre post tt r vp vs vt w) (g : RG w0 n C T o A c B S pre) {w' : World} {t' : Ten} {s' : St} (hs : s'.1 ≤ B.length) (hrd : w'.heap[C]? = some (rdObj A B.length c s'.1 s'.2)) (ht : w'.heap[T]? = some (.cells (pre ++ (t'.cells vp vs vt).toList ++ post).toArray tt (0, 0)))
    (hm : Mod (fun b => b = C ∨ b = T) w w') (hl : t'.pool = r.t.pool ∧ t'.statics = r.t.statics ∧ t'.twices = r.t.twices) : TR w0 n C T A c B pre post tt { r with t := t', s := s' } vp vs vt w' := by
  have k1 := g.C_lt
  have k2 := g.T_lt
  have hob : ∀ b o, w.heap[b]? = some o → n ≤ b → w'.heap[b]? = some o := fun b o hb hn => hm.obj hb (by rintro (f | f) <;> omega)
  refine ⟨hrd, hs, ht, h.mod' hm, hob _ _ h.hp (by omega), hob _ _ h.hs (by omega), hob _ _ h.ht (by omega), h.cnt, ?_⟩
  simp only [hl.1, hl.2.1, hl.2.2]
  exact h.rows' g (hm.mono fun b f => by rcases f with f | f <;> omega)
theorem TR.cell (h : TR w0 n C T A c B pre post tt r vp vs vt w) (g : RG w0 n C T o A c B S pre) {j : Nat} {u : Value} (hj : j < 33) (hu : (r.t.cells vp vs vt).toList[j]? = some u) : w.cell? ⟨T, o + j, none⟩ = some u := by
  rw [blk_cell h.ten, List.getElem?_toArray, mid_get g.ho (by simpa [Ten.cells] using hj), hu]
theorem set_mid (hlen : pre.length = o) {X : List Value} {j : Nat} (hj : j < X.length) (v : Value) {t : TypeId} : (Obj.cells ((pre ++ X ++ post).toArray.setIfInBounds (o + j) v) t) = .cells (pre ++ X.set j v ++ post).toArray t := by
  rw [List.setIfInBounds_toArray, mid_set hlen hj]
theorem size_mid (hlen : pre.length = o) {X : List Value} (hX : X.length = 33) {j : Nat} (hj : j < 33) : o + j < (pre ++ X ++ post).toArray.size := by
  simp; omega
theorem ten_len (t : Ten) (vp vs vt : Value) : (t.cells vp vs vt).toList.length = 33 := rfl
/-- The state's invariant. -/
def RI (w0 : World) (n C T : Nat) (A : Option Addr) (c : Nat) (B : List UInt8) (pre post : List Value) (tt : TypeId) (s : St) (k : Nat) (w : World) : Prop := ∃ vp vs vt, TR w0 n C T A c B pre post tt (rk B s k) vp vs vt w
theorem own_rowAt {w : World} {base : Nat} {e : TypeId} {size : Nat} {v : Value} {m : Nat} {xs : List Value} (h : w.ownsRow base e size v m xs) : ∃ P p, v = .slice P m p ∧ RowAt (fun b => base ≤ b) w P xs := by
  obtain ⟨P, p, e, _, r⟩ := RowAt.of_owns h
  exact ⟨P, p, e, r⟩
end
section
variable {w0 : World} {n C T o : Nat} {A : Option Addr} {c : Nat} {B : List UInt8} {S : Nat → Prop} {pre post : List Value} {tt : TypeId} {s : St} {w : World}
theorem ri_0 (g : RG w0 n C T o A c B S pre) (h : RI w0 n C T A c B pre post tt s 0 w) :
    Calls Try.prog 58 #[bxv n, bxv (n + 1)] w fun e w' => e = .returned (.tuple #[]) ∧ RI w0 n C T A c B pre post tt s 1 w' := by
  obtain ⟨vp, vs, vt, h⟩ := h
  have hk : rk B s 1 = (fun r : RS => ({ r with t := { r.t with name := (rname B r.s).1 }, s := (rname B r.s).2 } : RS)) (rk B s 0) := rfl
  unfold RI
  rw [hk]
  have hn : (rk B s 0).t.name = [] := rfl
  generalize rk B s 0 = r at h hn ⊢
  clear hk
  refine (ten_name_rd B h.rd (h.row g) h.le g.hc g.hB g.SC (h.boxes g) r.t.name (by rw [hn]; decide) h.ten (by rw [List.getElem?_toArray]; exact mid_get (j := 0) g.ho (by rw [ten_len]; decide)) g.TC).mono fun e w' ⟨he, a1, a2, a3⟩ => ⟨he, vp, vs, vt, h.next g (rname_le B _ h.le) a1 ?_ a3 ⟨rfl, rfl, rfl⟩⟩
  rw [a2]
  exact congrArg some (set_mid (j := 0) g.ho (by rw [ten_len]; decide) _)
theorem ri_1 (g : RG w0 n C T o A c B S pre) (h : RI w0 n C T A c B pre post tt s 1 w) :
    Calls Try.prog 59 #[bxv n, bxv (n + 1)] w fun e w' => e = .returned (.tuple #[]) ∧ RI w0 n C T A c B pre post tt s 2 w' := by
  obtain ⟨vp, vs, vt, h⟩ := h
  have hk : rk B s 2 = (fun r : RS => ({ r with t := { r.t with vni := (rnum B 4 r.s).1 }, s := (rnum B 4 r.s).2 } : RS)) (rk B s 1) := rfl
  unfold RI
  rw [hk]
  generalize rk B s 1 = r at h ⊢
  clear hk
  refine (ten_vni_rd B h.rd (h.row g) h.le g.hc g.hB g.SC (h.boxes g) h.ten (size_mid g.ho (ten_len _ _ _ _) (by decide)) g.TC).mono fun e w' ⟨he, a1, a2, a3⟩ => ⟨he, vp, vs, vt, h.next g (rnum_le B 4 _ h.le) a1 ?_ a3 ⟨rfl, rfl, rfl⟩⟩
  rw [a2]
  exact congrArg some (set_mid (j := 1) g.ho (by rw [ten_len]; decide) _)
theorem ri_2 (g : RG w0 n C T o A c B S pre) (h : RI w0 n C T A c B pre post tt s 2 w) :
    Calls Try.prog 60 #[bxv n, bxv (n + 1)] w fun e w' => e = .returned (.tuple #[]) ∧ RI w0 n C T A c B pre post tt s 3 w' := by
  obtain ⟨vp, vs, vt, h⟩ := h
  have hk : rk B s 3 = (fun r : RS => ({ r with t := { r.t with key := K8.of (rtake B r.s 8).1 }, s := (rtake B r.s 8).2 } : RS)) (rk B s 2) := rfl
  unfold RI
  rw [hk]
  generalize rk B s 2 = r at h ⊢
  clear hk
  refine (ten_key_rd B h.rd (h.row g) h.le g.hc g.hB g.SC (h.boxes g) h.ten (by simp only [List.length_append, ten_len, g.ho]; omega) g.TC).mono fun e w' ⟨he, a1, a2, a3⟩ => ⟨he, vp, vs, vt, h.next g (rtake_le B _ 8 h.le) a1 ?_ a3 ⟨rfl, rfl, rfl⟩⟩
  rw [a2, splice_mid g.ho _ (by rw [bcells_length, rtake_length, ten_len]; decide), key_splice _ _ _ _ _ (rtake_length _ _ _)]
theorem ri_3 (g : RG w0 n C T o A c B S pre) (h : RI w0 n C T A c B pre post tt s 3 w) :
    Calls Try.prog 62 #[bxv n, bxv (n + 1)] w fun e w' => e = .returned (.tuple #[]) ∧ RI w0 n C T A c B pre post tt s 4 w' := by
  obtain ⟨vp, vs, vt, h⟩ := h
  have hk : rk B s 4 = (fun r : RS => ({ r with t := { r.t with vtep := (rnum B 4 r.s).1 }, s := (rnum B 4 r.s).2 } : RS)) (rk B s 3) := rfl
  unfold RI
  rw [hk]
  generalize rk B s 3 = r at h ⊢
  clear hk
  refine (ten_vtep_rd B h.rd (h.row g) h.le g.hc g.hB g.SC (h.boxes g) h.ten (size_mid g.ho (ten_len _ _ _ _) (by decide)) g.TC).mono fun e w' ⟨he, a1, a2, a3⟩ => ⟨he, vp, vs, vt, h.next g (rnum_le B 4 _ h.le) a1 ?_ a3 ⟨rfl, rfl, rfl⟩⟩
  rw [a2]
  exact congrArg some (set_mid (j := 10) g.ho (by rw [ten_len]; decide) _)
theorem ri_4 (g : RG w0 n C T o A c B S pre) (h : RI w0 n C T A c B pre post tt s 4 w) :
    Calls Try.prog 63 #[bxv n, bxv (n + 1)] w fun e w' => e = .returned (.tuple #[]) ∧ RI w0 n C T A c B pre post tt s 5 w' := by
  obtain ⟨vp, vs, vt, h⟩ := h
  have hk : rk B s 5 = (fun r : RS => ({ r with t := { r.t with vmac := M6.of (rtake B r.s 6).1 }, s := (rtake B r.s 6).2 } : RS)) (rk B s 4) := rfl
  unfold RI
  rw [hk]
  generalize rk B s 4 = r at h ⊢
  clear hk
  refine (ten_vmac_rd B h.rd (h.row g) h.le g.hc g.hB g.SC (h.boxes g) h.ten (by simp only [List.length_append, ten_len, g.ho]; omega) g.TC).mono fun e w' ⟨he, a1, a2, a3⟩ => ⟨he, vp, vs, vt, h.next g (rtake_le B _ 6 h.le) a1 ?_ a3 ⟨rfl, rfl, rfl⟩⟩
  rw [a2, splice_mid g.ho _ (by rw [bcells_length, rtake_length, ten_len]; decide), vmac_splice _ _ _ _ _ (rtake_length _ _ _)]
theorem ri_5 (g : RG w0 n C T o A c B S pre) (h : RI w0 n C T A c B pre post tt s 5 w) :
    Calls Try.prog 64 #[bxv n, bxv (n + 1)] w fun e w' => e = .returned (.tuple #[]) ∧ RI w0 n C T A c B pre post tt s 6 w' := by
  obtain ⟨vp, vs, vt, h⟩ := h
  have hk : rk B s 6 = (fun r : RS => ({ r with t := { r.t with host := M6.of (rtake B r.s 6).1 }, s := (rtake B r.s 6).2 } : RS)) (rk B s 5) := rfl
  unfold RI
  rw [hk]
  generalize rk B s 5 = r at h ⊢
  clear hk
  refine (ten_host_rd B h.rd (h.row g) h.le g.hc g.hB g.SC (h.boxes g) h.ten (by simp only [List.length_append, ten_len, g.ho]; omega) g.TC).mono fun e w' ⟨he, a1, a2, a3⟩ => ⟨he, vp, vs, vt, h.next g (rtake_le B _ 6 h.le) a1 ?_ a3 ⟨rfl, rfl, rfl⟩⟩
  rw [a2, splice_mid g.ho _ (by rw [bcells_length, rtake_length, ten_len]; decide), host_splice _ _ _ _ _ (rtake_length _ _ _)]
theorem ri_6 (g : RG w0 n C T o A c B S pre) (h : RI w0 n C T A c B pre post tt s 6 w) :
    Calls Try.prog 65 #[bxv n, bxv (n + 1)] w fun e w' => e = .returned (.tuple #[]) ∧ RI w0 n C T A c B pre post tt s 7 w' := by
  obtain ⟨vp, vs, vt, h⟩ := h
  have hk : rk B s 7 = (fun r : RS => ({ r with t := { r.t with lo := (rnum B 2 r.s).1 }, s := (rnum B 2 r.s).2 } : RS)) (rk B s 6) := rfl
  unfold RI
  rw [hk]
  generalize rk B s 6 = r at h ⊢
  clear hk
  refine (ten_lo_rd B h.rd (h.row g) h.le g.hc g.hB g.SC (h.boxes g) h.ten (size_mid g.ho (ten_len _ _ _ _) (by decide)) g.TC).mono fun e w' ⟨he, a1, a2, a3⟩ => ⟨he, vp, vs, vt, h.next g (rnum_le B 2 _ h.le) a1 ?_ a3 ⟨rfl, rfl, rfl⟩⟩
  rw [a2]
  exact congrArg some (set_mid (j := 24) g.ho (by rw [ten_len]; decide) _)
theorem ri_7 (g : RG w0 n C T o A c B S pre) (h : RI w0 n C T A c B pre post tt s 7 w) :
    Calls Try.prog 67 #[bxv n, bxv (n + 1)] w fun e w' => e = .returned (.tuple #[]) ∧ RI w0 n C T A c B pre post tt s 8 w' := by
  obtain ⟨vp, vs, vt, h⟩ := h
  have hk : rk B s 8 = (fun r : RS => ({ r with t := { r.t with hi := (rnum B 2 r.s).1 }, s := (rnum B 2 r.s).2 } : RS)) (rk B s 7) := rfl
  unfold RI
  rw [hk]
  generalize rk B s 7 = r at h ⊢
  clear hk
  refine (ten_hi_rd B h.rd (h.row g) h.le g.hc g.hB g.SC (h.boxes g) h.ten (size_mid g.ho (ten_len _ _ _ _) (by decide)) g.TC).mono fun e w' ⟨he, a1, a2, a3⟩ => ⟨he, vp, vs, vt, h.next g (rnum_le B 2 _ h.le) a1 ?_ a3 ⟨rfl, rfl, rfl⟩⟩
  rw [a2]
  exact congrArg some (set_mid (j := 25) g.ho (by rw [ten_len]; decide) _)
theorem ri_8 (g : RG w0 n C T o A c B S pre) (h : RI w0 n C T A c B pre post tt s 8 w) :
    Calls Try.prog 68 #[bxv n, bxv (n + 1)] w fun e w' => e = .returned (.tuple #[]) ∧ RI w0 n C T A c B pre post tt s 9 w' := by
  obtain ⟨vp, vs, vt, h⟩ := h
  have hk : rk B s 9 = (fun r : RS => ({ r with t := { r.t with filter := (rnum B 1 r.s).1 }, s := (rnum B 1 r.s).2 } : RS)) (rk B s 8) := rfl
  unfold RI
  rw [hk]
  generalize rk B s 8 = r at h ⊢
  clear hk
  refine (ten_filter_rd B h.rd (h.row g) h.le g.hc g.hB g.SC (h.boxes g) h.ten (size_mid g.ho (ten_len _ _ _ _) (by decide)) g.TC).mono fun e w' ⟨he, a1, a2, a3⟩ => ⟨he, vp, vs, vt, h.next g (rnum_le B 1 _ h.le) a1 ?_ a3 ⟨rfl, rfl, rfl⟩⟩
  rw [a2]
  exact congrArg some (set_mid (j := 26) g.ho (by rw [ten_len]; decide) _)
theorem ri_9 (g : RG w0 n C T o A c B S pre) (h : RI w0 n C T A c B pre post tt s 9 w) :
    Calls Try.prog 70 #[bxv n, bxv (n + 1)] w fun e w' => e = .returned (.tuple #[]) ∧ RI w0 n C T A c B pre post tt s 10 w' := by
  obtain ⟨vp, vs, vt, h⟩ := h
  have hk : rk B s 10 = (fun r : RS => ({ r with t := { r.t with sess := (rnum B 2 r.s).1 }, s := (rnum B 2 r.s).2 } : RS)) (rk B s 9) := rfl
  unfold RI
  rw [hk]
  generalize rk B s 9 = r at h ⊢
  clear hk
  refine (ten_sess_rd B h.rd (h.row g) h.le g.hc g.hB g.SC (h.boxes g) h.ten (size_mid g.ho (ten_len _ _ _ _) (by decide)) g.TC).mono fun e w' ⟨he, a1, a2, a3⟩ => ⟨he, vp, vs, vt, h.next g (rnum_le B 2 _ h.le) a1 ?_ a3 ⟨rfl, rfl, rfl⟩⟩
  rw [a2]
  exact congrArg some (set_mid (j := 29) g.ho (by rw [ten_len]; decide) _)
theorem ri_10 (g : RG w0 n C T o A c B S pre) (h : RI w0 n C T A c B pre post tt s 10 w) :
    Calls Try.prog 71 #[bxv n, bxv (n + 1)] w fun e w' => e = .returned (.tuple #[]) ∧ RI w0 n C T A c B pre post tt s 11 w' := by
  obtain ⟨vp, vs, vt, h⟩ := h
  have hk : rk B s 11 = (fun r : RS => ({ r with t := { r.t with queue := (rnum B 2 r.s).1 }, s := (rnum B 2 r.s).2 } : RS)) (rk B s 10) := rfl
  unfold RI
  rw [hk]
  generalize rk B s 10 = r at h ⊢
  clear hk
  refine (ten_queue_rd B h.rd (h.row g) h.le g.hc g.hB g.SC (h.boxes g) h.ten (size_mid g.ho (ten_len _ _ _ _) (by decide)) g.TC).mono fun e w' ⟨he, a1, a2, a3⟩ => ⟨he, vp, vs, vt, h.next g (rnum_le B 2 _ h.le) a1 ?_ a3 ⟨rfl, rfl, rfl⟩⟩
  rw [a2]
  exact congrArg some (set_mid (j := 30) g.ho (by rw [ten_len]; decide) _)
theorem ri_11 (g : RG w0 n C T o A c B S pre) (h : RI w0 n C T A c B pre post tt s 11 w) :
    Calls Try.prog 72 #[bxv n, bxv (n + 1)] w fun e w' => e = .returned (.tuple #[]) ∧ RI w0 n C T A c B pre post tt s 12 w' := by
  obtain ⟨vp, vs, vt, h⟩ := h
  have hk : rk B s 12 = (fun r : RS => ({ r with t := { r.t with rate := (rnum B 4 r.s).1 }, s := (rnum B 4 r.s).2 } : RS)) (rk B s 11) := rfl
  unfold RI
  rw [hk]
  generalize rk B s 11 = r at h ⊢
  clear hk
  refine (ten_rate_rd B h.rd (h.row g) h.le g.hc g.hB g.SC (h.boxes g) h.ten (size_mid g.ho (ten_len _ _ _ _) (by decide)) g.TC).mono fun e w' ⟨he, a1, a2, a3⟩ => ⟨he, vp, vs, vt, h.next g (rnum_le B 4 _ h.le) a1 ?_ a3 ⟨rfl, rfl, rfl⟩⟩
  rw [a2]
  exact congrArg some (set_mid (j := 31) g.ho (by rw [ten_len]; decide) _)
theorem ri_12 (g : RG w0 n C T o A c B S pre) (h : RI w0 n C T A c B pre post tt s 12 w) :
    Calls Try.prog 73 #[bxv n, bxv (n + 1)] w fun e w' => e = .returned (.tuple #[]) ∧ RI w0 n C T A c B pre post tt s 13 w' := by
  obtain ⟨vp, vs, vt, h⟩ := h
  have hk : rk B s 13 = (fun r : RS => ({ r with t := { r.t with burst := (rnum B 4 r.s).1 }, s := (rnum B 4 r.s).2 } : RS)) (rk B s 12) := rfl
  unfold RI
  rw [hk]
  generalize rk B s 12 = r at h ⊢
  clear hk
  refine (ten_burst_rd B h.rd (h.row g) h.le g.hc g.hB g.SC (h.boxes g) h.ten (size_mid g.ho (ten_len _ _ _ _) (by decide)) g.TC).mono fun e w' ⟨he, a1, a2, a3⟩ => ⟨he, vp, vs, vt, h.next g (rnum_le B 4 _ h.le) a1 ?_ a3 ⟨rfl, rfl, rfl⟩⟩
  rw [a2]
  exact congrArg some (set_mid (j := 32) g.ho (by rw [ten_len]; decide) _)
theorem ri_13 (g : RG w0 n C T o A c B S pre) (h : RI w0 n C T A c B pre post tt s 13 w) :
    Calls Try.prog 74 #[bxv n, bxv (n + 1), bxv (n + 2)] w fun e w' => e = .returned (.tuple #[]) ∧ RI w0 n C T A c B pre post tt s 14 w' := by
  obtain ⟨vp, vs, vt, h⟩ := h
  have hk : rk B s 14 = (fun r : RS => ({ r with np := (rnum B 1 r.s).1, s := (rnum B 1 r.s).2 } : RS)) (rk B s 13) := rfl
  unfold RI
  rw [hk]
  generalize rk B s 13 = r at h ⊢
  clear hk
  obtain ⟨P, p, Q, q, R, r', e1, e2, e3, r1, r2, r3⟩ := h.rows
  subst e1 e2 e3
  refine (ten_npool_rd B h.rd (h.row g) h.le g.hc g.hB g.SC (h.boxes g) (h.cell g (j := 23) (by decide) rfl) h.hp (by have := g.C_lt; omega)).mono fun e w' ⟨he, a1, a2, a3⟩ => ⟨he, .slice P r.t.pool.length p, .slice Q r.t.statics.length q, .slice R r.t.twices.length r', ?_⟩
  have k1 := g.C_lt
  have k2 := g.T_lt
  have hob : ∀ b o, w.heap[b]? = some o → b ≠ n + 2 → b ≠ C → w'.heap[b]? = some o := fun b o hb hn hc => a3.obj hb (by rintro (f | f) <;> omega)
  refine ⟨a1, rnum_le B 1 _ h.le, hob _ _ h.ten (by omega) g.TC, h.mod.trans (a3.mono fun b f => by rcases f with f | f; exact .inl f; exact .inr (.inr (by omega))), a2, hob _ _ h.hs (by omega) (by omega), hob _ _ h.ht (by omega) (by omega), ⟨rnum_lt B 1 _, h.cnt.2.1, h.cnt.2.2⟩, h.rows' g (a3.mono fun b f => by rcases f with f | f <;> omega)⟩
theorem ri_14 (g : RG w0 n C T o A c B S pre) (h : RI w0 n C T A c B pre post tt s 14 w) :
    Calls Try.prog 76 #[bxv n, bxv (n + 1), bxv (n + 3)] w fun e w' => e = .returned (.tuple #[]) ∧ RI w0 n C T A c B pre post tt s 15 w' := by
  obtain ⟨vp, vs, vt, h⟩ := h
  have hk : rk B s 15 = (fun r : RS => ({ r with ns := (rnum B 1 r.s).1, s := (rnum B 1 r.s).2 } : RS)) (rk B s 14) := rfl
  unfold RI
  rw [hk]
  generalize rk B s 14 = r at h ⊢
  clear hk
  obtain ⟨P, p, Q, q, R, r', e1, e2, e3, r1, r2, r3⟩ := h.rows
  subst e1 e2 e3
  refine (ten_nstatics_rd B h.rd (h.row g) h.le g.hc g.hB g.SC (h.boxes g) (h.cell g (j := 27) (by decide) rfl) h.hs (by have := g.C_lt; omega)).mono fun e w' ⟨he, a1, a2, a3⟩ => ⟨he, .slice P r.t.pool.length p, .slice Q r.t.statics.length q, .slice R r.t.twices.length r', ?_⟩
  have k1 := g.C_lt
  have k2 := g.T_lt
  have hob : ∀ b o, w.heap[b]? = some o → b ≠ n + 3 → b ≠ C → w'.heap[b]? = some o := fun b o hb hn hc => a3.obj hb (by rintro (f | f) <;> omega)
  refine ⟨a1, rnum_le B 1 _ h.le, hob _ _ h.ten (by omega) g.TC, h.mod.trans (a3.mono fun b f => by rcases f with f | f; exact .inl f; exact .inr (.inr (by omega))), hob _ _ h.hp (by omega) (by omega), a2, hob _ _ h.ht (by omega) (by omega), ⟨h.cnt.1, rnum_lt B 1 _, h.cnt.2.2⟩, h.rows' g (a3.mono fun b f => by rcases f with f | f <;> omega)⟩
theorem ri_15 (g : RG w0 n C T o A c B S pre) (h : RI w0 n C T A c B pre post tt s 15 w) :
    Calls Try.prog 77 #[bxv n, bxv (n + 1), bxv (n + 4)] w fun e w' => e = .returned (.tuple #[]) ∧ RI w0 n C T A c B pre post tt s 16 w' := by
  obtain ⟨vp, vs, vt, h⟩ := h
  have hk : rk B s 16 = (fun r : RS => ({ r with nt := (rnum B 1 r.s).1, s := (rnum B 1 r.s).2 } : RS)) (rk B s 15) := rfl
  unfold RI
  rw [hk]
  generalize rk B s 15 = r at h ⊢
  clear hk
  obtain ⟨P, p, Q, q, R, r', e1, e2, e3, r1, r2, r3⟩ := h.rows
  subst e1 e2 e3
  refine (ten_ntwices_rd B h.rd (h.row g) h.le g.hc g.hB g.SC (h.boxes g) (h.cell g (j := 28) (by decide) rfl) h.ht (by have := g.C_lt; omega)).mono fun e w' ⟨he, a1, a2, a3⟩ => ⟨he, .slice P r.t.pool.length p, .slice Q r.t.statics.length q, .slice R r.t.twices.length r', ?_⟩
  have k1 := g.C_lt
  have k2 := g.T_lt
  have hob : ∀ b o, w.heap[b]? = some o → b ≠ n + 4 → b ≠ C → w'.heap[b]? = some o := fun b o hb hn hc => a3.obj hb (by rintro (f | f) <;> omega)
  refine ⟨a1, rnum_le B 1 _ h.le, hob _ _ h.ten (by omega) g.TC, h.mod.trans (a3.mono fun b f => by rcases f with f | f; exact .inl f; exact .inr (.inr (by omega))), hob _ _ h.hp (by omega) (by omega), hob _ _ h.hs (by omega) (by omega), a2, ⟨h.cnt.1, h.cnt.2.1, rnum_lt B 1 _⟩, h.rows' g (a3.mono fun b f => by rcases f with f | f <;> omega)⟩
theorem ri_16 (g : RG w0 n C T o A c B S pre) (h : RI w0 n C T A c B pre post tt s 16 w) :
    Calls Try.prog 78 #[bxv n, bxv (n + 2), bxv (n + 1)] w fun e w' => e = .returned (.tuple #[]) ∧ RI w0 n C T A c B pre post tt s 17 w' := by
  obtain ⟨vp, vs, vt, h⟩ := h
  have hk : rk B s 17 = (fun r : RS => ({ r with t := { r.t with pool := (rmany (rnum B 4) r.np r.s).1 }, s := (rmany (rnum B 4) r.np r.s).2 } : RS)) (rk B s 16) := rfl
  unfold RI
  rw [hk]
  generalize rk B s 16 = r at h ⊢
  clear hk
  have k1 := g.C_lt
  have k2 := g.T_lt
  have hsz : n + 6 < w.heap.size := Nat.lt_of_lt_of_le g.gt h.mod.size
  refine (ten_lpool_rd B h.rd (h.row g) h.le g.hc g.hB g.SC g.ST (h.boxes g) (by omega) (by omega) (by have := h.cnt; omega) (fun b hb => by have := g.S_lt b hb; omega) h.hp h.ten (size_mid g.ho (ten_len _ _ _ _) (by decide)) g.TC).mono fun e w' ⟨he, a1, ⟨v, a2, a4⟩, a3⟩ => ⟨he, v, vs, vt, ?_⟩
  obtain ⟨P', p', e', r0'⟩ := own_rowAt a4
  have r1' := r0'.mono (S' := fun b => n + 7 ≤ b) (fun b _ hb => by omega)
  obtain ⟨P, p, Q, q, R, r', e1, e2, e3, r1, r2, r3⟩ := h.rows' g (a3.mono (G := fun b => b < n + 7) fun b f => by rcases f with f | f <;> omega)
  have hob : ∀ b o, w.heap[b]? = some o → n ≤ b → w'.heap[b]? = some o := fun b o hb hn => a3.obj hb (by rintro (f | f) <;> omega)
  refine ⟨a1, rmany_le (rnum_le B 4) _ _ h.le, ?_, h.mod' a3, hob _ _ h.hp (by omega), hob _ _ h.hs (by omega), hob _ _ h.ht (by omega), h.cnt, ⟨P', p', Q, q, R, r', e', e2, e3, r1', r2, r3⟩⟩
  rw [a2]
  exact congrArg some (set_mid (j := 23) g.ho (by rw [ten_len]; decide) _)
theorem ri_17 (g : RG w0 n C T o A c B S pre) (h : RI w0 n C T A c B pre post tt s 17 w) :
    Calls Try.prog 81 #[bxv n, bxv (n + 3), bxv (n + 1), bxv (n + 5)] w fun e w' => e = .returned (.tuple #[]) ∧ RI w0 n C T A c B pre post tt s 18 w' := by
  obtain ⟨vp, vs, vt, h⟩ := h
  have hk : rk B s 18 = (fun r : RS => ({ r with t := { r.t with statics := (rmany (rpr B) r.ns r.s).1 }, s := (rmany (rpr B) r.ns r.s).2 } : RS)) (rk B s 17) := rfl
  unfold RI
  rw [hk]
  generalize rk B s 17 = r at h ⊢
  clear hk
  have k1 := g.C_lt
  have k2 := g.T_lt
  have hsz : n + 6 < w.heap.size := Nat.lt_of_lt_of_le g.gt h.mod.size
  refine (ten_lstatics_rd B h.rd (h.row g) h.le g.hc g.hB g.SC g.ST (h.boxes g) (by omega) (by omega) (by have := h.cnt; omega) (fun b hb => by have := g.S_lt b hb; omega) h.hs (h.keep g g.pr (by omega) (by omega)) h.ten (size_mid g.ho (ten_len _ _ _ _) (by decide)) g.TC).mono fun e w' ⟨he, a1, ⟨v, a2, a4⟩, a3⟩ => ⟨he, vp, v, vt, ?_⟩
  obtain ⟨P', p', e', r0'⟩ := own_rowAt a4
  have r1' := r0'.mono (S' := fun b => n + 7 ≤ b) (fun b _ hb => by omega)
  obtain ⟨P, p, Q, q, R, r', e1, e2, e3, r1, r2, r3⟩ := h.rows' g (a3.mono (G := fun b => b < n + 7) fun b f => by rcases f with f | f <;> omega)
  have hob : ∀ b o, w.heap[b]? = some o → n ≤ b → w'.heap[b]? = some o := fun b o hb hn => a3.obj hb (by rintro (f | f) <;> omega)
  refine ⟨a1, rmany_le (rpr_le B) _ _ h.le, ?_, h.mod' a3, hob _ _ h.hp (by omega), hob _ _ h.hs (by omega), hob _ _ h.ht (by omega), h.cnt, ⟨P, p, P', p', R, r', e1, e', e3, r1, r1', r3⟩⟩
  rw [a2]
  exact congrArg some (set_mid (j := 27) g.ho (by rw [ten_len]; decide) _)
theorem ri_18 (g : RG w0 n C T o A c B S pre) (h : RI w0 n C T A c B pre post tt s 18 w) :
    Calls Try.prog 83 #[bxv n, bxv (n + 4), bxv (n + 1), bxv (n + 5)] w fun e w' => e = .returned (.tuple #[]) ∧ RI w0 n C T A c B pre post tt s 19 w' := by
  obtain ⟨vp, vs, vt, h⟩ := h
  have hk : rk B s 19 = (fun r : RS => ({ r with t := { r.t with twices := (rmany (rpr B) r.nt r.s).1 }, s := (rmany (rpr B) r.nt r.s).2 } : RS)) (rk B s 18) := rfl
  unfold RI
  rw [hk]
  generalize rk B s 18 = r at h ⊢
  clear hk
  have k1 := g.C_lt
  have k2 := g.T_lt
  have hsz : n + 6 < w.heap.size := Nat.lt_of_lt_of_le g.gt h.mod.size
  refine (ten_ltwices_rd B h.rd (h.row g) h.le g.hc g.hB g.SC g.ST (h.boxes g) (by omega) (by omega) (by have := h.cnt; omega) (fun b hb => by have := g.S_lt b hb; omega) h.ht (h.keep g g.pr (by omega) (by omega)) h.ten (size_mid g.ho (ten_len _ _ _ _) (by decide)) g.TC).mono fun e w' ⟨he, a1, ⟨v, a2, a4⟩, a3⟩ => ⟨he, vp, vs, v, ?_⟩
  obtain ⟨P', p', e', r0'⟩ := own_rowAt a4
  have r1' := r0'.mono (S' := fun b => n + 7 ≤ b) (fun b _ hb => by omega)
  obtain ⟨P, p, Q, q, R, r', e1, e2, e3, r1, r2, r3⟩ := h.rows' g (a3.mono (G := fun b => b < n + 7) fun b f => by rcases f with f | f <;> omega)
  have hob : ∀ b o, w.heap[b]? = some o → n ≤ b → w'.heap[b]? = some o := fun b o hb hn => a3.obj hb (by rintro (f | f) <;> omega)
  refine ⟨a1, rmany_le (rpr_le B) _ _ h.le, ?_, h.mod' a3, hob _ _ h.hp (by omega), hob _ _ h.hs (by omega), hob _ _ h.ht (by omega), h.cnt, ⟨P, p, Q, q, P', p', e1, e2, e', r1, r2, r1'⟩⟩
  rw [a2]
  exact congrArg some (set_mid (j := 28) g.ho (by rw [ten_len]; decide) _)
end
end

section
attribute [local go_sem] stPair gtPair gtK8 gtM6 run_store_func
attribute [local go_sem high] neqPair eqK8 eqM6
open Go.RowKit
set_option linter.unusedVariables false
set_option linter.unusedSimpArgs false
/-- Nothing is cut off. -/
structure Ten.Fits (t : Ten) : Prop where
  name : t.name.length ≤ 255
  pool : t.pool.length ≤ 255
  statics : t.statics.length ≤ 255
  twices : t.twices.length ≤ 255
  filter : 0 ≤ t.filter ∧ t.filter ≤ 255
  sess : 0 ≤ t.sess ∧ t.sess ≤ 65535
  queue : 0 ≤ t.queue ∧ t.queue ≤ 65535
/-- Where field k begins. -/
def pos (L : List UInt8) (t : Ten) (k : Nat) : St := ((L ++ ((wfields t).take k).flatten).length, false)
end

section
attribute [local go_sem] stPair gtPair gtK8 gtM6
attribute [local go_sem high] neqPair eqK8 eqM6
open Go.RowKit
set_option linter.unusedVariables false
theorem tenSize : (Try.prog.info? 33).map (·.size) = some 33 := by kernel_rfl
theorem load_ten {W : World} {b : Nat} {CA : Array Value} (h : W.heap[b]? = some (.cells CA 33 (0, 0))) (hc : CA.size = 33) :
    (Instr.loadAt 33 (.pointer (some ⟨b, 0, none⟩))).run Try.prog W = .ok (.agg CA) W := by
  simp only [Instr.loadAt, Instr.sureAddr, Sem.run_bind, Sem.run_pure, Result.andThen_ok]
  exact run_loadVar_row W b _ _ CA (0, 0) _ h Try.underlying33 rfl (by rw [tenSize, hc])
/-- A tenant loaded: under a name of its own, which the walk does not lay open. -/
def tenLoad (v : Value) : Sem Value := Instr.loadAt 33 v
theorem load_fold (v : Value) : Instr.loadAt 33 v = tenLoad v := rfl
attribute [local go_sem ↓] load_fold
theorem tenLoad_run {W : World} {b : Nat} {CA : Array Value} (h : W.heap[b]? = some (.cells CA 33 (0, 0))) (hc : CA.size = 33) : (tenLoad (.pointer (some ⟨b, 0, none⟩))).run Try.prog W = .ok (.agg CA) W := load_ten h hc
end

section
attribute [local go_sem] stPair gtPair gtK8 gtM6 run_store_func
attribute [local go_sem high] neqPair eqK8 eqM6
attribute [local go_sem ↓] load_fold
open Go.RowKit
set_option linter.unusedVariables false
/-- A tenant with its three lists' values. -/
structure TV where
  t : Ten
  vp : Value
  vs : Value
  vt : Value
def TV.cells (x : TV) : List Value := (x.t.cells x.vp x.vs x.vt).toList
theorem TV.len (x : TV) : x.cells.length = 33 := rfl
def tvCells (l : List TV) : List Value := l.flatMap TV.cells
def TV.Rows (S : Nat → Prop) (w : World) (x : TV) : Prop :=
  ∃ P p Q q R r, x.vp = .slice P x.t.pool.length p ∧ x.vs = .slice Q x.t.statics.length q ∧ x.vt = .slice R x.t.twices.length r ∧ RowAt S w P (numCells x.t.pool) ∧ RowAt S w Q (prCells x.t.statics) ∧ RowAt S w R (prCells x.t.twices)
theorem TV.Rows.imp {S S' : Nat → Prop} {w : World} {x : TV} (h : x.Rows S w) (hs : ∀ b, S b → S' b) : x.Rows S' w := by
  obtain ⟨P, p, Q, q, R, r, e1, e2, e3, r1, r2, r3⟩ := h
  exact ⟨P, p, Q, q, R, r, e1, e2, e3, r1.mono (fun b _ => hs b), r2.mono (fun b _ => hs b), r3.mono (fun b _ => hs b)⟩
theorem TV.Rows.lt {S S' : Nat → Prop} {w : World} {x : TV} (h : x.Rows S w) (hs : ∀ b, b < w.heap.size → S b → S' b) : x.Rows S' w := by
  obtain ⟨P, p, Q, q, R, r, e1, e2, e3, r1, r2, r3⟩ := h
  exact ⟨P, p, Q, q, R, r, e1, e2, e3, r1.mono hs, r2.mono hs, r3.mono hs⟩
theorem TV.Rows.keeps {S : Nat → Prop} {w w' : World} {x : TV} (h : x.Rows S w) (hk : Keeps S w w') : x.Rows S w' := by
  obtain ⟨P, p, Q, q, R, r, e1, e2, e3, r1, r2, r3⟩ := h
  exact ⟨P, p, Q, q, R, r, e1, e2, e3, r1.keeps hk, r2.keeps hk, r3.keeps hk⟩
/-! a tenant's operations under names of their own, which the walk does not lay open -/
def tenStore (p v : Value) : Sem Unit := Instr.storeAt 33 p v
theorem store_fold (p v : Value) : Instr.storeAt 33 p v = tenStore p v := rfl
attribute [local go_sem ↓] store_fold
def tenAlloc (v : Value) : Sem Value := Instr.alloc 33 true v
theorem alloc_fold (v : Value) : Instr.alloc 33 true v = tenAlloc v := rfl
attribute [local go_sem ↓] alloc_fold
def zTen : Array Value := Ten.zero.cells (.slice none 0 0) (.slice none 0 0) (.slice none 0 0)
set_option maxRecDepth 100000 in
theorem tenAlloc_run (W : World) : (tenAlloc (.tuple #[])).run Try.prog W = .ok (.pointer (some ⟨W.heap.size, 0, none⟩)) (W.alloc (.cells zTen 33)) := by kernel_rfl
theorem ten_one (t : Ten) (P Q R : Option Addr) (a b c d e f : Nat) : (t.cells (.slice P a b) (.slice Q c d) (.slice R e f)).all (·.oneCell') = true := by
  simp [Ten.cells, Value.oneCell']
theorem TV.one {S : Nat → Prop} {w : World} {x : TV} (h : x.Rows S w) : x.cells.toArray.all (·.oneCell') = true := by
  obtain ⟨P, p, Q, q, R, r, e1, e2, e3, _⟩ := h
  simp only [TV.cells, e1, e2, e3, Array.toArray_toList]
  exact ten_one _ _ _ _ _ _ _ _ _ _
theorem setRow_alloc (W : World) (a b : Array Value) (t : TypeId) : (W.alloc (.cells a t)).setRow W.heap.size b = W.alloc (.cells b t) := by
  unfold World.setRow World.alloc
  congr 1
  apply Array.ext_getElem?
  intro i
  rw [Array.getElem?_modify, Array.getElem?_push, Array.getElem?_push]
  by_cases h : W.heap.size = i
  · subst h; simp
  · have h' : ¬ i = W.heap.size := fun e => h e.symm
    simp [h, h']
theorem tenStore_new (W : World) (CA : Array Value) (hc : CA.size = 33) (h1 : CA.all (·.oneCell') = true) : (tenStore (.pointer (some ⟨W.heap.size, 0, none⟩)) (.agg CA)).run Try.prog (W.alloc (.cells zTen 33)) = .ok () (W.alloc (.cells CA 33)) := by
  simp only [tenStore, Instr.storeAt, Instr.sureAddr, Sem.run_bind, Sem.run_pure, Result.andThen_ok]
  rw [← setRow_alloc W zTen CA]
  exact run_storeVar_row _ _ _ _ zTen CA (at10 W _) (by rw [tenSize, hc]) (by rw [hc]; rfl) h1
theorem tenLoad_mid (W : World) (b o : Nat) (cs : List Value) (hl : cs.length = 33) (h : ∀ j v, cs[j]? = some v → W.cell? ⟨b, o + j, none⟩ = some v) : (tenLoad (.pointer (some ⟨b, o, none⟩))).run Try.prog W = .ok (.agg cs.toArray) W :=
  run_loadAt_mid W b o _ cs _ h Try.underlying33 rfl (by rw [tenSize, hl])
end

section
attribute [local go_sem] stPair gtPair gtK8 gtM6 run_store_func
attribute [local go_sem high] neqPair eqK8 eqM6
attribute [local go_sem ↓] load_fold store_fold alloc_fold
open Go.RowKit
set_option linter.unusedVariables false
theorem ri_step {w0 : World} {n C T o : Nat} {A : Option Addr} {c : Nat} {B : List UInt8} {S : Nat → Prop} {pre post : List Value} {tt : TypeId} {s : St} (g : RG w0 n C T o A c B S pre) :
    ∀ k w1 f cc, tenFn[k]? = some f → (tenCap n)[k]? = some cc → RI w0 n C T A c B pre post tt s k w1 → w1.heap[n + 6]? = some (.cells (tenRow n).toArray 1 (0, 0)) ∧ Calls Try.prog f cc w1 fun e w' => e = .returned (.tuple #[]) ∧ RI w0 n C T A c B pre post tt s (k + 1) w' := by
  intro k w1 f c hf hc h
  have hk : k < 19 := (List.getElem?_eq_some_iff.1 hf).1
  refine ⟨?_, ?_⟩
  · obtain ⟨vp, vs, vt, h⟩ := h
    exact h.keep g g.rw6 (by omega) (by omega)
  have hor : k = 0 ∨ k = 1 ∨ k = 2 ∨ k = 3 ∨ k = 4 ∨ k = 5 ∨ k = 6 ∨ k = 7 ∨ k = 8 ∨ k = 9 ∨ k = 10 ∨ k = 11 ∨ k = 12 ∨ k = 13 ∨ k = 14 ∨ k = 15 ∨ k = 16 ∨ k = 17 ∨ k = 18 := by omega
  clear hk
  rcases hor with rfl | rfl | rfl | rfl | rfl | rfl | rfl | rfl | rfl | rfl | rfl | rfl | rfl | rfl | rfl | rfl | rfl | rfl | rfl
  · obtain rfl : 58 = f := Option.some.inj hf; obtain rfl : #[bxv n, bxv (n + 1)] = c := Option.some.inj hc; exact ri_0 g h
  · obtain rfl : 59 = f := Option.some.inj hf; obtain rfl : #[bxv n, bxv (n + 1)] = c := Option.some.inj hc; exact ri_1 g h
  · obtain rfl : 60 = f := Option.some.inj hf; obtain rfl : #[bxv n, bxv (n + 1)] = c := Option.some.inj hc; exact ri_2 g h
  · obtain rfl : 62 = f := Option.some.inj hf; obtain rfl : #[bxv n, bxv (n + 1)] = c := Option.some.inj hc; exact ri_3 g h
  · obtain rfl : 63 = f := Option.some.inj hf; obtain rfl : #[bxv n, bxv (n + 1)] = c := Option.some.inj hc; exact ri_4 g h
  · obtain rfl : 64 = f := Option.some.inj hf; obtain rfl : #[bxv n, bxv (n + 1)] = c := Option.some.inj hc; exact ri_5 g h
  · obtain rfl : 65 = f := Option.some.inj hf; obtain rfl : #[bxv n, bxv (n + 1)] = c := Option.some.inj hc; exact ri_6 g h
  · obtain rfl : 67 = f := Option.some.inj hf; obtain rfl : #[bxv n, bxv (n + 1)] = c := Option.some.inj hc; exact ri_7 g h
  · obtain rfl : 68 = f := Option.some.inj hf; obtain rfl : #[bxv n, bxv (n + 1)] = c := Option.some.inj hc; exact ri_8 g h
  · obtain rfl : 70 = f := Option.some.inj hf; obtain rfl : #[bxv n, bxv (n + 1)] = c := Option.some.inj hc; exact ri_9 g h
  · obtain rfl : 71 = f := Option.some.inj hf; obtain rfl : #[bxv n, bxv (n + 1)] = c := Option.some.inj hc; exact ri_10 g h
  · obtain rfl : 72 = f := Option.some.inj hf; obtain rfl : #[bxv n, bxv (n + 1)] = c := Option.some.inj hc; exact ri_11 g h
  · obtain rfl : 73 = f := Option.some.inj hf; obtain rfl : #[bxv n, bxv (n + 1)] = c := Option.some.inj hc; exact ri_12 g h
  · obtain rfl : 74 = f := Option.some.inj hf; obtain rfl : #[bxv n, bxv (n + 1), bxv (n + 2)] = c := Option.some.inj hc; exact ri_13 g h
  · obtain rfl : 76 = f := Option.some.inj hf; obtain rfl : #[bxv n, bxv (n + 1), bxv (n + 3)] = c := Option.some.inj hc; exact ri_14 g h
  · obtain rfl : 77 = f := Option.some.inj hf; obtain rfl : #[bxv n, bxv (n + 1), bxv (n + 4)] = c := Option.some.inj hc; exact ri_15 g h
  · obtain rfl : 78 = f := Option.some.inj hf; obtain rfl : #[bxv n, bxv (n + 2), bxv (n + 1)] = c := Option.some.inj hc; exact ri_16 g h
  · obtain rfl : 81 = f := Option.some.inj hf; obtain rfl : #[bxv n, bxv (n + 3), bxv (n + 1), bxv (n + 5)] = c := Option.some.inj hc; exact ri_17 g h
  · obtain rfl : 83 = f := Option.some.inj hf; obtain rfl : #[bxv n, bxv (n + 4), bxv (n + 1), bxv (n + 5)] = c := Option.some.inj hc; exact ri_18 g h
/-- A TENANT READ. -/
theorem tenant_rd {S : Nat → Prop} {w : World} {C : Nat} {A : Option Addr} {c : Nat} {s0 : St} (B : List UInt8) (hb : w.heap[C]? = some (rdObj A B.length c s0.1 s0.2)) (hrow : RowAt S w A (bcells B)) (hat : s0.1 ≤ B.length) (hc : B.length ≤ c) (hB : B.length ≤ 100000000) (hS : ¬ S C) {T o : Nat} (hST : ¬ S T) (hSl : ∀ b, S b → b < w.heap.size)
    {pre post : List Value} {tt : TypeId} (hT : w.heap[T]? = some (.cells (pre ++ zTen.toList ++ post).toArray tt (0, 0))) (ho : pre.length = o) (hTC : T ≠ C) :
    Calls Try.prog 47 #[.pointer (some ⟨C, 0, none⟩), .pointer (some ⟨T, o, none⟩)] w fun e w' => e = .returned (.tuple #[]) ∧ ∃ x : TV, x.t = (rten B s0).1 ∧ (rten B s0).2.1 ≤ B.length ∧ w'.heap[C]? = some (rdObj A B.length c (rten B s0).2.1 (rten B s0).2.2) ∧
      w'.heap[T]? = some (.cells (pre ++ x.cells ++ post).toArray tt (0, 0)) ∧ x.Rows (fun b => w.heap.size ≤ b) w' ∧ Mod (fun b => b = C ∨ b = T) w w' := by
  have hC := lt_of_block hb
  have hTl := lt_of_block hT
  refine tenant_walk (fun w' => ∃ x : TV, x.t = (rten B s0).1 ∧ (rten B s0).2.1 ≤ B.length ∧ w'.heap[C]? = some (rdObj A B.length c (rten B s0).2.1 (rten B s0).2.2) ∧
      w'.heap[T]? = some (.cells (pre ++ x.cells ++ post).toArray tt (0, 0)) ∧ x.Rows (fun b => w.heap.size ≤ b) w' ∧ Mod (fun b => b = C ∨ b = T) w w') (fun w0 hm hbx h2 h3 h4 h5 h6 => ?_)
  have g : RG w0 w.heap.size C T o A c B S pre :=
    { bx := hbx, pr := h5, rw6 := h6, C_lt := hC, T_lt := hTl, TC := hTC, ho := ho, row := hrow.keeps (hm.keeps (fun _ _ _ f => f)), S_lt := hSl, SC := hS, ST := hST, hc := hc, hB := hB }
  refine ⟨RI w0 w.heap.size C T A c B pre post tt s0, ?_, ri_step g, fun w' ⟨vp, vs, vt, h'⟩ => ?_⟩
  · exact ⟨.slice none 0 0, .slice none 0 0, .slice none 0 0, ⟨hm.obj hb id, hat, hm.obj hT id, Mod.refl _ _, h2, h3, h4, ⟨show (0:Nat) < 256 by decide, show (0:Nat) < 256 by decide, show (0:Nat) < 256 by decide⟩, none, 0, none, 0, none, 0, rfl, rfl, rfl, .nil _ _ _, .nil _ _ _, .nil _ _ _⟩⟩
  · have hsz := hm.size
    obtain ⟨P, p, Q, q, R, r', e1, e2, e3, r1, r2, r3⟩ := h'.rows
    refine ⟨⟨(rk B s0 19).t, vp, vs, vt⟩, rfl, h'.le, h'.rd, h'.ten, ⟨P, p, Q, q, R, r', e1, e2, e3, r1.mono (fun b _ hb => by omega), r2.mono (fun b _ hb => by omega), r3.mono (fun b _ hb => by omega)⟩, ?_⟩
    refine (hm.mono (fun _ f => f.elim)).trans' h'.mod (fun i hi f => ?_)
    rcases f with f | f | f
    · exact .inl f
    · exact .inr f
    · omega
/-! ### a list of tenants read -/
theorem rten_le (B : List UInt8) (s : St) (h : s.1 ≤ B.length) : (rten B s).2.1 ≤ B.length := by
  have a : ∀ r : RS, r.s.1 ≤ B.length → ∀ f ∈ rsteps B, (f r).s.1 ≤ B.length := by
    intro r hr f hf
    simp only [rsteps, List.mem_cons, List.mem_nil_iff, or_false] at hf
    rcases hf with rfl | rfl | rfl | rfl | rfl | rfl | rfl | rfl | rfl | rfl | rfl | rfl | rfl | rfl | rfl | rfl | rfl | rfl | rfl
    · exact rname_le B _ hr
    · exact rnum_le B 4 _ hr
    · exact rtake_le B _ 8 hr
    · exact rnum_le B 4 _ hr
    · exact rtake_le B _ 6 hr
    · exact rtake_le B _ 6 hr
    · exact rnum_le B 2 _ hr
    · exact rnum_le B 2 _ hr
    · exact rnum_le B 1 _ hr
    · exact rnum_le B 2 _ hr
    · exact rnum_le B 2 _ hr
    · exact rnum_le B 4 _ hr
    · exact rnum_le B 4 _ hr
    · exact rnum_le B 1 _ hr
    · exact rnum_le B 1 _ hr
    · exact rnum_le B 1 _ hr
    · exact rmany_le (rnum_le B 4) _ _ hr
    · exact rmany_le (rpr_le B) _ _ hr
    · exact rmany_le (rpr_le B) _ _ hr
  have b : ∀ (l : List (RS → RS)) (r : RS), (∀ f ∈ l, f ∈ rsteps B) → r.s.1 ≤ B.length → (l.foldl (fun r f => f r) r).s.1 ≤ B.length := by
    intro l
    induction l with
    | nil => intro r _ hr; exact hr
    | cons f l ih => intro r hl hr; exact ih (f r) (fun g hg => hl g (by simp [hg])) (a r hr f (hl f (by simp)))
  exact b _ _ (fun f hf => List.mem_of_mem_take hf) h
theorem infoTen : (Try.prog.info? 33).map (fun i => (i.zero, i.size, i.bytes)) = some (some (.agg zTen), 33, 160) := by kernel_rfl
theorem list33' {α : Type} : ∀ (l : List α), l.length = 33 → ∃ c0 c1 c2 c3 c4 c5 c6 c7 c8 c9 c10 c11 c12 c13 c14 c15 c16 c17 c18 c19 c20 c21 c22 c23 c24 c25 c26 c27 c28 c29 c30 c31 c32, l = [c0, c1, c2, c3, c4, c5, c6, c7, c8, c9, c10, c11, c12, c13, c14, c15, c16, c17, c18, c19, c20, c21, c22, c23, c24, c25, c26, c27, c28, c29, c30, c31, c32]
  | c0 :: c1 :: c2 :: c3 :: c4 :: c5 :: c6 :: c7 :: c8 :: c9 :: c10 :: c11 :: c12 :: c13 :: c14 :: c15 :: c16 :: c17 :: c18 :: c19 :: c20 :: c21 :: c22 :: c23 :: c24 :: c25 :: c26 :: c27 :: c28 :: c29 :: c30 :: c31 :: c32 :: [], _ => ⟨c0, c1, c2, c3, c4, c5, c6, c7, c8, c9, c10, c11, c12, c13, c14, c15, c16, c17, c18, c19, c20, c21, c22, c23, c24, c25, c26, c27, c28, c29, c30, c31, c32, rfl⟩
set_option maxRecDepth 100000 in
theorem ten_build (CA : Array Value) (h : CA.size = 33) : ∀ W, (Instr.buildSlice 36 1 #[(0, .agg CA)]).run Try.prog W = .ok (.slice (some ⟨W.heap.size, 0, none⟩) 1 1) (W.alloc (.cells CA 33)) := by
  intro W
  obtain ⟨ie, hie, hz0, hz1, hz2⟩ := info_parts infoTen
  refine Go.run_buildSlice W _ 33 1 _ CA ie _ Try.underlying36 hie hz0 (by rw [hz1]; decide) (by rw [hz1]; decide) ?_
  rw [hz1]
  obtain ⟨l⟩ := CA
  obtain ⟨c0, c1, c2, c3, c4, c5, c6, c7, c8, c9, c10, c11, c12, c13, c14, c15, c16, c17, c18, c19, c20, c21, c22, c23, c24, c25, c26, c27, c28, c29, c30, c31, c32, rfl⟩ := list33' l (by simpa using h)
  kernel_rfl
end

section
attribute [local go_sem] stPair gtPair gtK8 gtM6 run_store_func
attribute [local go_sem high] neqPair eqK8 eqM6
attribute [local go_sem ↓] load_fold store_fold alloc_fold
open Go.RowKit
set_option linter.unusedVariables false
def conFn : List Nat := [84, 85, 86, 87, 88, 89, 90, 91]
def conCap (n : Nat) : List (Array Value) := List.replicate 6 #[bxv n, bxv (n + 1)] ++ [#[bxv n, bxv (n + 1), bxv (n + 2)], #[bxv n, bxv (n + 2), bxv (n + 1)]]
def conRow (n : Nat) : List Value := (conFn.zip (conCap n)).map fun x => .func (.func x.1) #[] x.2
theorem con_enters : ∀ f ∈ conFn, ∀ (a : Array Value) (W : World), (callFunc f a).run Try.prog W = .ok (.enter f a) W := by
  intro f hf a W
  simp only [conFn, List.mem_cons, List.mem_nil_iff, or_false] at hf
  rcases hf with rfl | rfl | rfl | rfl | rfl | rfl | rfl | rfl <;> go_simp
set_option maxRecDepth 100000 in
theorem config_walk {w : World} {C T o : Nat} (R : World → Prop)
    (H : ∀ w0, Mod No w w0 → BoxesC w0 w.heap.size (w.heap.size + 1) C T o → w0.heap[w.heap.size + 2]? = some (.cells #[.int .i64 0] 3 (0, 0)) → 
      w0.heap[w.heap.size + 3]? = some (.cells (conRow w.heap.size).toArray 1 (0, 0)) →
      ∃ Inv : Nat → World → Prop, Inv 0 w0 ∧ (∀ k w1 f c, conFn[k]? = some f → (conCap w.heap.size)[k]? = some c → Inv k w1 → w1.heap[w.heap.size + 3]? = some (.cells (conRow w.heap.size).toArray 1 (0, 0)) ∧ Calls Try.prog f c w1 fun e w' => e = .returned (.tuple #[]) ∧ Inv (k + 1) w') ∧ ∀ w', Inv 8 w' → R w') :
    Calls Try.prog 51 #[.pointer (some ⟨C, 0, none⟩), .pointer (some ⟨T, o, none⟩)] w fun e w' => e = .returned (.tuple #[]) ∧ R w' := by
  have HH := Lib.hid H
  clear H
  go_enter Try.func51, Try.ntmps51
  go_wp2
  refine grab_world fun w0 hw0 => ?_
  have hm0 : Mod No w w0 := by rw [hw0]; repeat (first | with_reducible exact Mod.refl _ _ | refine Mod.alloc ?_ _ | refine Mod.setCell ?_ (.inl (by simp; omega)) _)
  have k0 : w0.heap[w.heap.size]? = some (.cells #[.pointer (some ⟨C, 0, none⟩)] 98 (0, 0)) := by rw [hw0]; (repeat (first | (refine at_eq _ _ ?_; simp; done) | (refine (Below.heap_alloc _ _ _ ?_).trans ?_; (simp; try omega))))
  have k1 : w0.heap[w.heap.size + 1]? = some (.cells #[.pointer (some ⟨T, o, none⟩)] 107 (0, 0)) := by rw [hw0]; (repeat (first | (refine at_eq _ _ ?_; simp; done) | (refine (Below.heap_alloc _ _ _ ?_).trans ?_; (simp; try omega))))
  have k2 : w0.heap[w.heap.size + 2]? = some (.cells #[.int .i64 0] 3 (0, 0)) := by rw [hw0]; (repeat (first | (refine at_eq _ _ ?_; simp; done) | (refine (Below.heap_alloc _ _ _ ?_).trans ?_; (simp; try omega))))
  have k6 : w0.heap[w.heap.size + 3]? = some (.cells (conRow w.heap.size).toArray 1 (0, 0)) := by rw [hw0]; refine (at_eq _ _ (by simp)).trans ?_; simp [conRow, conFn, conCap, bxv, List.replicate]
  obtain ⟨Inv, h0, hstep, hend⟩ := HH.out w0 hm0 ⟨k0, k1⟩ k2 k6
  have HI := Lib.hid (And.intro h0 (And.intro hstep hend))
  clear HH h0 hstep hend k0 k1 k2 k6 hm0 hw0
  go_loopw [19] (fun i wr => ∃ k : Nat, i = .int .i64 k ∧ k ≤ 8 ∧ Inv k wr) (fun i _ => 8 - (intOf i).toNat)
  case atStart => exact ⟨0, rfl, by omega, HI.out.1⟩
  case round =>
    obtain ⟨k, rfl, hk, hinv⟩ := hrel
    have HV := Lib.hid hinv
    clear hinv
    by_cases hlt : k < 8
    · obtain ⟨f, hf⟩ : ∃ f, conFn[k]? = some f := ⟨_, List.getElem?_eq_getElem hlt⟩
      obtain ⟨c, hc⟩ : ∃ c, (conCap w.heap.size)[k]? = some c := ⟨_, List.getElem?_eq_getElem hlt⟩
      obtain ⟨hrow, hcall⟩ := HI.out.2.1 k _ f c hf hc HV.out
      have hcell : wr.cell? ⟨w.heap.size + 1 + 1 + 1, k, none⟩ = some (.func (.func f) #[] c) := by
        rw [show w.heap.size + 1 + 1 + 1 = w.heap.size + 3 from rfl, blk_cell hrow]
        simp [conRow, (List.getElem?_zip_eq_some (z := (f, c))).2 ⟨hf, hc⟩]
      have hen := con_enters f (List.mem_of_getElem? hf)
      have p1 : (0:Int) ≤ k := by omega
      have p2 : (k:Int) < 8 := by omega
      have HC := Lib.hid hcall
      clear hrow hcall hf hc
      go_wp2_with fail
      refine HC.out.mono ?_
      rintro e w2 ⟨rfl, hi⟩
      have HV2 := Lib.hid hi
      clear hi
      go_wp2
      exact ⟨⟨k + 1, by go_num, by omega, HV2.out⟩, by simp [intOf]; omega⟩
    · have hk' : k = 8 := by omega
      subst hk'
      go_wp2
      go_end0
      exact ⟨rfl, HI.out.2.2 _ HV.out⟩
/-- Settings as data, but for their tenants. -/
structure Con where
  ip : Nat
  mac : M6
  omac : M6
  nmac : M6
  key : K8
  drain : Nat
  deriving DecidableEq, Inhabited
def Con.cells (c : Con) (vt : Value) : Array Value :=
  #[.int .u32 (c.ip : Int), u8v c.mac.b0, u8v c.mac.b1, u8v c.mac.b2, u8v c.mac.b3, u8v c.mac.b4, u8v c.mac.b5,
    u8v c.omac.b0, u8v c.omac.b1, u8v c.omac.b2, u8v c.omac.b3, u8v c.omac.b4, u8v c.omac.b5,
    u8v c.nmac.b0, u8v c.nmac.b1, u8v c.nmac.b2, u8v c.nmac.b3, u8v c.nmac.b4, u8v c.nmac.b5,
    u8v c.key.b0, u8v c.key.b1, u8v c.key.b2, u8v c.key.b3, u8v c.key.b4, u8v c.key.b5, u8v c.key.b6, u8v c.key.b7, .int .u32 (c.drain : Int), vt]
structure CW (w0 : World) (n C base T : Nat) (c : Con) (vt : Value) (nt : Nat) (X : List UInt8) (v : Value) (w : World) : Prop where
  wr : Wr w C base X v
  row : ∀ g, v.ownBlock = some g → w0.heap.size ≤ g
  con : w.heap[T]? = some (.cells (c.cells vt) 38 (0, 0))
  mod : Mod (fun b => b = C ∨ b = n + 2) w0 w
  hn : w.heap[n + 2]? = some (.cells #[.int .i64 (nt : Int)] 3 (0, 0))
structure CG (w0 : World) (n C base T : Nat) (c : Con) (vt : Value) (l : List TV) : Prop where
  bx : BoxesC w0 n (n + 1) C T 0
  rw3 : w0.heap[n + 3]? = some (.cells (conRow n).toArray 1 (0, 0))
  C_lt : C < n
  T_lt : T < n
  TC : T ≠ C
  base_le : base ≤ n
  C_ge : base ≤ C
  ip : c.ip < 4294967296
  drain : c.drain < 4294967296
  rows : ∃ P p, vt = .slice P l.length p ∧ RowAt (· < base) w0 P (tvCells l)
  tens : ∀ x ∈ l, x.t.Ok ∧ x.t.name.length ≤ 100000000 ∧ x.Rows (· < base) w0
section
variable {w0 : World} {n C base T : Nat} {c : Con} {vt : Value} {l : List TV} {nt : Nat} {X : List UInt8} {v : Value} {w : World}
theorem CW.keep (h : CW w0 n C base T c vt nt X v w) (g : CG w0 n C base T c vt l) {b : Nat} {ob : Obj} (hb : w0.heap[b]? = some ob) (h1 : n ≤ b) (h2 : b ≠ n + 2) : w.heap[b]? = some ob := by
  refine h.mod.obj hb ?_
  have := g.C_lt
  rintro (f | f) <;> omega
theorem CW.boxes (h : CW w0 n C base T c vt nt X v w) (g : CG w0 n C base T c vt l) : BoxesC w n (n + 1) C T 0 := ⟨h.keep g g.bx.c (by omega) (by omega), h.keep g g.bx.t (by omega) (by omega)⟩
theorem CW.keeps (h : CW w0 n C base T c vt nt X v w) (g : CG w0 n C base T c vt l) : Keeps (· < base) w0 w := h.mod.keeps fun b hb hs f => by
  have := g.C_ge
  have := g.base_le
  rcases f with f | f <;> omega
theorem CW.mod' (h : CW w0 n C base T c vt nt X v w) {w' : World} {E : Nat → Prop} (hm : Mod (fun b => b = C ∨ v.ownBlock = some b ∨ E b) w w') (hE : ∀ b, E b → b = n + 2) : Mod (fun b => b = C ∨ b = n + 2) w0 w' :=
  h.mod.trans' hm fun i hi f => by
    rcases f with f | f | f
    · exact .inl f
    · have := h.row i f; omega
    · exact .inr (hE i f)
theorem CW.row' (h : CW w0 n C base T c vt nt X v w) {v' : Value} (hr : ∀ g, v'.ownBlock = some g → v.ownBlock = some g ∨ w.heap.size ≤ g) : ∀ g, v'.ownBlock = some g → w0.heap.size ≤ g := by
  intro g hg
  rcases hr g hg with f | f
  · exact h.row g f
  · exact Nat.le_trans h.mod.size f
theorem CW.next (h : CW w0 n C base T c vt nt X v w) (g : CG w0 n C base T c vt l) {X' : List UInt8} {v' : Value} {w' : World} (hw : Wr w' C base X' v') (hm : WMod C v w v' w') : CW w0 n C base T c vt nt X' v' w' := by
  have k1 := g.C_lt
  exact ⟨hw, h.row' hm.row, hm.obj h.con g.TC (h.wr.ne h.con (by decide)), h.mod' (E := fun _ => False) (hm.mod.mono (fun i f => by rcases f with f | f; exact .inl f; exact .inr (.inl f))) (fun _ f => f.elim), hm.obj h.hn (by omega) (h.wr.ne h.hn (by decide))⟩
theorem CW.cell (h : CW w0 n C base T c vt nt X v w) {j : Nat} {u : Value} (hu : (c.cells vt)[j]? = some u) : w.cell? ⟨T, j, none⟩ = some u := by rw [blk_cell h.con, hu]
end
end

section
attribute [local go_sem] stPair gtPair gtK8 gtM6 run_store_func
attribute [local go_sem high] neqPair eqK8 eqM6
attribute [local go_sem ↓] load_fold store_fold alloc_fold
open Go.RowKit
set_option linter.unusedVariables false
/-- A value that is so many bytes, its own row above the base. -/
def OwnB (w : World) (base : Nat) (v : Value) (L : List UInt8) : Prop := w.ownsRow base 5 1 v L.length (bcells L)
theorem OwnB.open {w : World} {base : Nat} {v : Value} {L : List UInt8} (h : OwnB w base v L) : ∃ A c, v = .slice A L.length c ∧ L.length ≤ c ∧ RowAt (fun b => base ≤ b) w A (bcells L) := RowAt.of_owns h
theorem OwnB.at {w : World} {base : Nat} {v : Value} {L : List UInt8} (h : OwnB w base v L) (hne : L ≠ []) : ∃ g c, v = .slice (some ⟨g, 0, none⟩) L.length c ∧ base ≤ g ∧ g < w.heap.size ∧ L.length ≤ c ∧ ∀ j u, (bcells L)[j]? = some u → w.cell? ⟨g, j, none⟩ = some u := by
  rcases h.2 with ⟨rfl, h0⟩ | ⟨g, cap, cur, rfl, hb, hg, hn, _⟩
  · exact absurd (List.eq_nil_of_length_eq_zero h0) hne
  · refine ⟨g, cap, rfl, hb, lt_of_block hg, hn, fun j u hj => ?_⟩
    have := h.cells (g := g) rfl j u hj
    rwa [Addr.add_lit, Nat.zero_add] at this
theorem OwnB.mod {F : Nat → Prop} {w w' : World} {base : Nat} {v : Value} {L : List UInt8} (h : OwnB w base v L) (hm : Mod F w w') (hF : ∀ b, base ≤ b → b < w.heap.size → ¬ F b) : OwnB w' base v L :=
  own_mod h hm fun k hk => by
    rcases h.2 with ⟨rfl, _⟩ | ⟨g, cap, cur, rfl, hb, hg, _⟩
    · simp [Value.ownBlock] at hk
    · obtain rfl : g = k := by simpa [Value.ownBlock] using hk
      exact hF g hb (lt_of_block hg)
theorem own_base {w : World} {base base' : Nat} {e : TypeId} {size : Nat} {v : Value} {n : Nat} {xs : List Value} (h : w.ownsRow base e size v n xs) (hb : base' ≤ base) : w.ownsRow base' e size v n xs := by
  refine ⟨h.1, ?_⟩
  rcases h.2 with hn | ⟨g, cap, cur, e, hg, rest⟩
  · exact .inl hn
  · exact .inr ⟨g, cap, cur, e, Nat.le_trans hb hg, rest⟩
theorem conSize : (Try.prog.info? 38).map (·.size) = some 29 := by kernel_rfl
set_option maxRecDepth 100000 in
theorem box_con (CA : Array Value) (h : CA.size = 29) : ∀ W, (Instr.box 38 (.agg CA)).run Try.prog W = .ok (.pointer (some ⟨W.heap.size, 0, none⟩)) (W.alloc (.cells CA 38)) := by
  intro W
  go_simp
/-- A change's cells. -/
def cChg (put : Bool) (name : List UInt8) (x : TV) : Array Value := #[.bool put, .string (str name)] ++ x.cells.toArray
theorem cChg_size (put : Bool) (name : List UInt8) (x : TV) : (cChg put name x).size = 35 := by simp [cChg, TV.len]
theorem cChg0 (put : Bool) (name : List UInt8) (x : TV) : (cChg put name x)[0]? = some (.bool put) := by simp [cChg]
theorem cChg1 (put : Bool) (name : List UInt8) (x : TV) : (cChg put name x)[1]? = some (.string (str name)) := by simp [cChg]
theorem cChg2 (put : Bool) (name : List UInt8) (x : TV) (j : Nat) : (cChg put name x)[2 + j]? = x.cells[j]? := by
  rw [cChg, Array.getElem?_append_right (by simp)]; simp
end

section
attribute [local go_sem] stPair gtPair gtK8 gtM6 run_store_func
attribute [local go_sem high] neqPair eqK8 eqM6
attribute [local go_sem ↓] load_fold store_fold alloc_fold
open Go.ChangeShapes Go.WideShapes Go.ChangeAt Go.RowKit Go.Deep
set_option linter.unusedVariables false
variable {H : Type} {enc : TypeId × Value → H} {w : World}
theorem Ten.wf.ok {t : Ten} (h : t.wf) : t.Ok := ⟨h.vni, h.vtep, h.lo, h.hi, h.rate, h.burst, h.pool, h.statics, h.twices⟩
/-- What an argument's tenant gives. -/
structure TV.Open (w : World) (x : TV) : Prop where
  rows : x.Rows (fun _ => True) w
  wf : x.t.wf
theorem TV.Open.val {w : World} {x : TV} (h : x.Open w) : TenV (fun _ => True) w x.t (.agg x.cells.toArray) := by
  obtain ⟨P, p, Q, q, R, r, e1, e2, e3, r1, r2, r3⟩ := h.rows
  exact ⟨P, p, Q, q, R, r, by simp [TV.cells, e1, e2, e3], r1, r2, r3⟩
/-- Bytes. -/
theorem open_bytes {fuel : Nat} {c : Value} {x : DataW H × List MemPlace} (h : DataW.trod enc Try.prog w 0 (fun _ => true) true fuel 22 [c] = some x) :
    ∃ (A : Option Addr) (k : Nat) (l : List UInt8), c = .slice A l.length k ∧ l.length ≤ k ∧ l.length ≤ 9223372036854775807 ∧ RowAt (fun _ => True) w A (bcells l) := by
  obtain ⟨A, n, k, rfl, hnk⟩ : ∃ A n k, c = .slice A n k ∧ n ≤ k := by
    rcases open_ints Try.underlying22 Try.underlying5 co5 h with ⟨hcs, _⟩ | ⟨a, len', cap', zs, hcs, _, hl, _⟩
    · cases hcs; exact ⟨_, _, _, rfl, Nat.le_refl _⟩
    · cases hcs; exact ⟨_, _, _, rfl, hl⟩
  obtain ⟨zs, hz, hlen, hrow, hw⟩ := open_row_ints Try.underlying22 Try.underlying5 co5 h
  refine ⟨A, k, zs.map (fun z => UInt8.ofNat z.toNat), by rw [List.length_map, hz], by rw [List.length_map, hz]; exact hnk, by rw [List.length_map, hz]; exact hlen, ?_⟩
  have e : bcells (zs.map (fun z => UInt8.ofNat z.toNat)) = zs.map fun z => .int .u8 z := by
    simp only [bcells, List.map_map]
    refine List.map_congr_left fun z hz => ?_
    obtain ⟨b, rfl⟩ := byte_of_u8 (hw z hz)
    simp
  rw [e]
  exact hrow
end

end Go.Proofs.Ytpkieilmlnlpkaa
