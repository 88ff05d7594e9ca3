/-
  Package cfg: the tenant's closures that code an array of bytes, a name, both ways.
-/
import Derived.Test.YtcnemhhbihhcfaaCfgM
namespace Go.Proofs.Ytcnemhhbihhcfaa
open Go.RowKit
set_option linter.unusedVariables false

/-- A name's bytes behind its length. -/
def nameB' (l : List UInt8) : List UInt8 := be 1 (min l.length 255) ++ l.take 255

set_option maxRecDepth 100000 in
theorem ten_key_wr {w : World} {C base : Nat} {L : List UInt8} {v : Value} {bc bt T o : Nat} (h : Wr w C base L v) (hb : base ≤ w.heap.size) (hL : L.length ≤ 90000000) (hx : Boxes w bc bt C T o)
    (X : List UInt8) (hXl : X.length = 8) (hX : ∀ j u, (bcells X)[j]? = some u → w.cell? ⟨T, o + 2 + j, none⟩ = some u) :
    Calls Try.prog 53 #[.pointer (some ⟨bc, 0, none⟩), .pointer (some ⟨bt, 0, none⟩)] w fun e w' => e = .returned (.tuple #[]) ∧ ∃ v', Wr w' C base (L ++ X) v' ∧ WMod C v w v' w' := by
  have hd : ∀ W, W = w.drew → Calls Try.prog 54 #[.pointer (some ⟨C, 0, none⟩), .slice (some ⟨T, o + 2, none⟩) 8 8] W fun e w' => e = .returned (.tuple #[]) ∧ ∃ v', Wr w' C base (L ++ X) v' ∧ WMod C v w v' w' := by
    intro W hW
    subst hW
    have hby := bytes_wr (w := w.drew) ⟨h.blk, h.own⟩ hb X (by omega) ⟨T, o + 2, none⟩ 8 (fun j u hj => by rw [Addr.add_lit]; exact hX j u hj)
    rw [hXl] at hby
    exact hby.mono fun e w' ⟨he, v', a1, a2⟩ => ⟨he, v', a1, ⟨(Mod.refl _ w).drew.trans a2.mod, a2.row⟩⟩
  have c0 := blk_cell hx.c 0
  have c1 := blk_cell hx.t 0
  simp at c0 c1
  have HD := Lib.hid hd
  clear h hb hL hx hX hXl hd
  go_enter Try.func53, Try.ntmps53
  go_wp2_with fail
  go_region_law (first | (go_simp; go_at_call 54; refine (HD.out _ rfl).mono ?_; rintro e w1 ⟨rfl, v', hw1, hm1⟩; have HW := Lib.hid (And.intro hw1 hm1); clear hw1 hm1))
  all_goals
    go_wp2
    first | go_end0 | (simp only [Exit.inBlock, Exit.then]; refine bodyPost_ret (results_none rfl _ _ _) rfl ?_) | refine bodyPost_ret (results_none rfl _ _ _) rfl ?_
    exact ⟨rfl, v', HW.out.1, HW.out.2⟩
set_option maxRecDepth 100000 in
theorem ten_key_rd {S : Nat → Prop} {w : World} {C : Nat} {A : Option Addr} {c at_ : Nat} {sh : Bool} (B : List UInt8) (hb : w.heap[C]? = some (rdObj A B.length c at_ sh)) (hrow : RowAt S w A (bcells B)) (hat : at_ ≤ B.length) (hc : B.length ≤ c) (hB : B.length ≤ 100000000) (hS : ¬ S C) {bc bt T o : Nat} (hx : Boxes w bc bt C T o)
    {cs : List Value} {t : TypeId} (hT : w.heap[T]? = some (.cells cs.toArray t (0, 0))) (ho : o + 2 + 8 ≤ cs.length) (h1 : T ≠ C) :
    Calls Try.prog 53 #[.pointer (some ⟨bc, 0, none⟩), .pointer (some ⟨bt, 0, none⟩)] w fun e w' => e = .returned (.tuple #[]) ∧ w'.heap[C]? = some (rdObj A B.length c (rtake B (at_, sh) 8).2.1 (rtake B (at_, sh) 8).2.2) ∧
      w'.heap[T]? = some (.cells (splice cs (o + 2) (bcells (rtake B (at_, sh) 8).1)).toArray t (0, 0)) ∧ Mod (fun b => b = C ∨ b = T) w w' := by
  obtain ⟨R, hR⟩ : ∃ R : World → Prop, R = fun w' => w'.heap[C]? = some (rdObj A B.length c (rtake B (at_, sh) 8).2.1 (rtake B (at_, sh) 8).2.2) ∧
      w'.heap[T]? = some (.cells (splice cs (o + 2) (bcells (rtake B (at_, sh) 8).1)).toArray t (0, 0)) ∧ Mod (fun b => b = C ∨ b = T) w w' := ⟨_, rfl⟩
  have hd : ∀ W, W = w.drew → Calls Try.prog 54 #[.pointer (some ⟨C, 0, none⟩), .slice (some ⟨T, o + 2, none⟩) 8 8] W fun e w' => e = .returned (.tuple #[]) ∧ R w' := by
    intro W hW
    subst hW
    rw [hR]
    exact (bytes_rd (w := w.drew) B hb (hrow.keeps (Mod.keeps (Mod.drew (Mod.refl No w)) (fun _ _ _ f => f))) hat hc hB 8 (by decide) hS hT ho h1).mono fun e w' ⟨e1, e2, e3, e4⟩ => ⟨e1, e2, e3, (Mod.refl _ w).drew.trans e4⟩
  have c0 := blk_cell hx.c 0
  have c1 := blk_cell hx.t 0
  simp at c0 c1
  suffices hs : Calls Try.prog 53 #[.pointer (some ⟨bc, 0, none⟩), .pointer (some ⟨bt, 0, none⟩)] w fun e w' => e = .returned (.tuple #[]) ∧ R w' by
    rw [hR] at hs; exact hs
  have HD := Lib.hid hd
  clear hb hrow hat hc hB hS hx hT ho hd hR
  go_enter Try.func53, Try.ntmps53
  go_wp2_with fail
  go_region_law (first | (go_simp; go_at_call 54; refine (HD.out _ rfl).mono ?_; rintro e w1 ⟨rfl, hr⟩; have HW := Lib.hid hr; clear hr))
  all_goals
    go_wp2
    first | go_end0 | (simp only [Exit.inBlock, Exit.then]; refine bodyPost_ret (results_none rfl _ _ _) rfl ?_) | refine bodyPost_ret (results_none rfl _ _ _) rfl ?_
    exact ⟨rfl, HW.out⟩

set_option maxRecDepth 100000 in
theorem ten_vmac_wr {w : World} {C base : Nat} {L : List UInt8} {v : Value} {bc bt T o : Nat} (h : Wr w C base L v) (hb : base ≤ w.heap.size) (hL : L.length ≤ 90000000) (hx : Boxes w bc bt C T o)
    (X : List UInt8) (hXl : X.length = 6) (hX : ∀ j u, (bcells X)[j]? = some u → w.cell? ⟨T, o + 11 + j, none⟩ = some u) :
    Calls Try.prog 56 #[.pointer (some ⟨bc, 0, none⟩), .pointer (some ⟨bt, 0, none⟩)] w fun e w' => e = .returned (.tuple #[]) ∧ ∃ v', Wr w' C base (L ++ X) v' ∧ WMod C v w v' w' := by
  have hd : ∀ W, W = w.drew → Calls Try.prog 54 #[.pointer (some ⟨C, 0, none⟩), .slice (some ⟨T, o + 11, none⟩) 6 6] W fun e w' => e = .returned (.tuple #[]) ∧ ∃ v', Wr w' C base (L ++ X) v' ∧ WMod C v w v' w' := by
    intro W hW
    subst hW
    have hby := bytes_wr (w := w.drew) ⟨h.blk, h.own⟩ hb X (by omega) ⟨T, o + 11, none⟩ 6 (fun j u hj => by rw [Addr.add_lit]; exact hX j u hj)
    rw [hXl] at hby
    exact hby.mono fun e w' ⟨he, v', a1, a2⟩ => ⟨he, v', a1, ⟨(Mod.refl _ w).drew.trans a2.mod, a2.row⟩⟩
  have c0 := blk_cell hx.c 0
  have c1 := blk_cell hx.t 0
  simp at c0 c1
  have HD := Lib.hid hd
  clear h hb hL hx hX hXl hd
  go_enter Try.func56, Try.ntmps56
  go_wp2_with fail
  go_region_law (first | (go_simp; go_at_call 54; refine (HD.out _ rfl).mono ?_; rintro e w1 ⟨rfl, v', hw1, hm1⟩; have HW := Lib.hid (And.intro hw1 hm1); clear hw1 hm1))
  all_goals
    go_wp2
    first | go_end0 | (simp only [Exit.inBlock, Exit.then]; refine bodyPost_ret (results_none rfl _ _ _) rfl ?_) | refine bodyPost_ret (results_none rfl _ _ _) rfl ?_
    exact ⟨rfl, v', HW.out.1, HW.out.2⟩
set_option maxRecDepth 100000 in
theorem ten_vmac_rd {S : Nat → Prop} {w : World} {C : Nat} {A : Option Addr} {c at_ : Nat} {sh : Bool} (B : List UInt8) (hb : w.heap[C]? = some (rdObj A B.length c at_ sh)) (hrow : RowAt S w A (bcells B)) (hat : at_ ≤ B.length) (hc : B.length ≤ c) (hB : B.length ≤ 100000000) (hS : ¬ S C) {bc bt T o : Nat} (hx : Boxes w bc bt C T o)
    {cs : List Value} {t : TypeId} (hT : w.heap[T]? = some (.cells cs.toArray t (0, 0))) (ho : o + 11 + 6 ≤ cs.length) (h1 : T ≠ C) :
    Calls Try.prog 56 #[.pointer (some ⟨bc, 0, none⟩), .pointer (some ⟨bt, 0, none⟩)] w fun e w' => e = .returned (.tuple #[]) ∧ w'.heap[C]? = some (rdObj A B.length c (rtake B (at_, sh) 6).2.1 (rtake B (at_, sh) 6).2.2) ∧
      w'.heap[T]? = some (.cells (splice cs (o + 11) (bcells (rtake B (at_, sh) 6).1)).toArray t (0, 0)) ∧ Mod (fun b => b = C ∨ b = T) w w' := by
  obtain ⟨R, hR⟩ : ∃ R : World → Prop, R = fun w' => w'.heap[C]? = some (rdObj A B.length c (rtake B (at_, sh) 6).2.1 (rtake B (at_, sh) 6).2.2) ∧
      w'.heap[T]? = some (.cells (splice cs (o + 11) (bcells (rtake B (at_, sh) 6).1)).toArray t (0, 0)) ∧ Mod (fun b => b = C ∨ b = T) w w' := ⟨_, rfl⟩
  have hd : ∀ W, W = w.drew → Calls Try.prog 54 #[.pointer (some ⟨C, 0, none⟩), .slice (some ⟨T, o + 11, none⟩) 6 6] W fun e w' => e = .returned (.tuple #[]) ∧ R w' := by
    intro W hW
    subst hW
    rw [hR]
    exact (bytes_rd (w := w.drew) B hb (hrow.keeps (Mod.keeps (Mod.drew (Mod.refl No w)) (fun _ _ _ f => f))) hat hc hB 6 (by decide) hS hT ho h1).mono fun e w' ⟨e1, e2, e3, e4⟩ => ⟨e1, e2, e3, (Mod.refl _ w).drew.trans e4⟩
  have c0 := blk_cell hx.c 0
  have c1 := blk_cell hx.t 0
  simp at c0 c1
  suffices hs : Calls Try.prog 56 #[.pointer (some ⟨bc, 0, none⟩), .pointer (some ⟨bt, 0, none⟩)] w fun e w' => e = .returned (.tuple #[]) ∧ R w' by
    rw [hR] at hs; exact hs
  have HD := Lib.hid hd
  clear hb hrow hat hc hB hS hx hT ho hd hR
  go_enter Try.func56, Try.ntmps56
  go_wp2_with fail
  go_region_law (first | (go_simp; go_at_call 54; refine (HD.out _ rfl).mono ?_; rintro e w1 ⟨rfl, hr⟩; have HW := Lib.hid hr; clear hr))
  all_goals
    go_wp2
    first | go_end0 | (simp only [Exit.inBlock, Exit.then]; refine bodyPost_ret (results_none rfl _ _ _) rfl ?_) | refine bodyPost_ret (results_none rfl _ _ _) rfl ?_
    exact ⟨rfl, HW.out⟩

set_option maxRecDepth 100000 in
theorem ten_host_wr {w : World} {C base : Nat} {L : List UInt8} {v : Value} {bc bt T o : Nat} (h : Wr w C base L v) (hb : base ≤ w.heap.size) (hL : L.length ≤ 90000000) (hx : Boxes w bc bt C T o)
    (X : List UInt8) (hXl : X.length = 6) (hX : ∀ j u, (bcells X)[j]? = some u → w.cell? ⟨T, o + 17 + j, none⟩ = some u) :
    Calls Try.prog 57 #[.pointer (some ⟨bc, 0, none⟩), .pointer (some ⟨bt, 0, none⟩)] w fun e w' => e = .returned (.tuple #[]) ∧ ∃ v', Wr w' C base (L ++ X) v' ∧ WMod C v w v' w' := by
  have hd : ∀ W, W = w.drew → Calls Try.prog 54 #[.pointer (some ⟨C, 0, none⟩), .slice (some ⟨T, o + 17, none⟩) 6 6] W fun e w' => e = .returned (.tuple #[]) ∧ ∃ v', Wr w' C base (L ++ X) v' ∧ WMod C v w v' w' := by
    intro W hW
    subst hW
    have hby := bytes_wr (w := w.drew) ⟨h.blk, h.own⟩ hb X (by omega) ⟨T, o + 17, none⟩ 6 (fun j u hj => by rw [Addr.add_lit]; exact hX j u hj)
    rw [hXl] at hby
    exact hby.mono fun e w' ⟨he, v', a1, a2⟩ => ⟨he, v', a1, ⟨(Mod.refl _ w).drew.trans a2.mod, a2.row⟩⟩
  have c0 := blk_cell hx.c 0
  have c1 := blk_cell hx.t 0
  simp at c0 c1
  have HD := Lib.hid hd
  clear h hb hL hx hX hXl hd
  go_enter Try.func57, Try.ntmps57
  go_wp2_with fail
  go_region_law (first | (go_simp; go_at_call 54; refine (HD.out _ rfl).mono ?_; rintro e w1 ⟨rfl, v', hw1, hm1⟩; have HW := Lib.hid (And.intro hw1 hm1); clear hw1 hm1))
  all_goals
    go_wp2
    first | go_end0 | (simp only [Exit.inBlock, Exit.then]; refine bodyPost_ret (results_none rfl _ _ _) rfl ?_) | refine bodyPost_ret (results_none rfl _ _ _) rfl ?_
    exact ⟨rfl, v', HW.out.1, HW.out.2⟩
set_option maxRecDepth 100000 in
theorem ten_host_rd {S : Nat → Prop} {w : World} {C : Nat} {A : Option Addr} {c at_ : Nat} {sh : Bool} (B : List UInt8) (hb : w.heap[C]? = some (rdObj A B.length c at_ sh)) (hrow : RowAt S w A (bcells B)) (hat : at_ ≤ B.length) (hc : B.length ≤ c) (hB : B.length ≤ 100000000) (hS : ¬ S C) {bc bt T o : Nat} (hx : Boxes w bc bt C T o)
    {cs : List Value} {t : TypeId} (hT : w.heap[T]? = some (.cells cs.toArray t (0, 0))) (ho : o + 17 + 6 ≤ cs.length) (h1 : T ≠ C) :
    Calls Try.prog 57 #[.pointer (some ⟨bc, 0, none⟩), .pointer (some ⟨bt, 0, none⟩)] w fun e w' => e = .returned (.tuple #[]) ∧ w'.heap[C]? = some (rdObj A B.length c (rtake B (at_, sh) 6).2.1 (rtake B (at_, sh) 6).2.2) ∧
      w'.heap[T]? = some (.cells (splice cs (o + 17) (bcells (rtake B (at_, sh) 6).1)).toArray t (0, 0)) ∧ Mod (fun b => b = C ∨ b = T) w w' := by
  obtain ⟨R, hR⟩ : ∃ R : World → Prop, R = fun w' => w'.heap[C]? = some (rdObj A B.length c (rtake B (at_, sh) 6).2.1 (rtake B (at_, sh) 6).2.2) ∧
      w'.heap[T]? = some (.cells (splice cs (o + 17) (bcells (rtake B (at_, sh) 6).1)).toArray t (0, 0)) ∧ Mod (fun b => b = C ∨ b = T) w w' := ⟨_, rfl⟩
  have hd : ∀ W, W = w.drew → Calls Try.prog 54 #[.pointer (some ⟨C, 0, none⟩), .slice (some ⟨T, o + 17, none⟩) 6 6] W fun e w' => e = .returned (.tuple #[]) ∧ R w' := by
    intro W hW
    subst hW
    rw [hR]
    exact (bytes_rd (w := w.drew) B hb (hrow.keeps (Mod.keeps (Mod.drew (Mod.refl No w)) (fun _ _ _ f => f))) hat hc hB 6 (by decide) hS hT ho h1).mono fun e w' ⟨e1, e2, e3, e4⟩ => ⟨e1, e2, e3, (Mod.refl _ w).drew.trans e4⟩
  have c0 := blk_cell hx.c 0
  have c1 := blk_cell hx.t 0
  simp at c0 c1
  suffices hs : Calls Try.prog 57 #[.pointer (some ⟨bc, 0, none⟩), .pointer (some ⟨bt, 0, none⟩)] w fun e w' => e = .returned (.tuple #[]) ∧ R w' by
    rw [hR] at hs; exact hs
  have HD := Lib.hid hd
  clear hb hrow hat hc hB hS hx hT ho hd hR
  go_enter Try.func57, Try.ntmps57
  go_wp2_with fail
  go_region_law (first | (go_simp; go_at_call 54; refine (HD.out _ rfl).mono ?_; rintro e w1 ⟨rfl, hr⟩; have HW := Lib.hid hr; clear hr))
  all_goals
    go_wp2
    first | go_end0 | (simp only [Exit.inBlock, Exit.then]; refine bodyPost_ret (results_none rfl _ _ _) rfl ?_) | refine bodyPost_ret (results_none rfl _ _ _) rfl ?_
    exact ⟨rfl, HW.out⟩

set_option maxRecDepth 100000 in
theorem ten_name_wr {w : World} {C base : Nat} {L : List UInt8} {v : Value} {bc bt T o : Nat} (h : Wr w C base L v) (hb : base ≤ w.heap.size) (hL : L.length ≤ 80000000) (hx : Boxes w bc bt C T o)
    (l : List UInt8) (hl : l.length ≤ 100000000) {cs : Array Value} {t : TypeId} (hT : w.heap[T]? = some (.cells cs t (0, 0))) (ho : cs[o]? = some (.string (str l))) (h1 : T ≠ C) (h2 : v.ownBlock ≠ some T) :
    Calls Try.prog 51 #[.pointer (some ⟨bc, 0, none⟩), .pointer (some ⟨bt, 0, none⟩)] w fun e w' => e = .returned (.tuple #[]) ∧ ∃ v', Wr w' C base (L ++ nameB' l) v' ∧
      w'.heap[T]? = some (.cells (cs.setIfInBounds o (.string (str (l.take 255)))) t (0, 0)) ∧ Mod (fun b => b = C ∨ v.ownBlock = some b ∨ b = T) w w' ∧ (∀ g, v'.ownBlock = some g → v.ownBlock = some g ∨ w.heap.size ≤ g) := by
  obtain ⟨R, hR⟩ : ∃ R : World → Prop, R = fun w' => ∃ v', Wr w' C base (L ++ nameB' l) v' ∧
      w'.heap[T]? = some (.cells (cs.setIfInBounds o (.string (str (l.take 255)))) t (0, 0)) ∧ Mod (fun b => b = C ∨ v.ownBlock = some b ∨ b = T) w w' ∧ (∀ g, v'.ownBlock = some g → v.ownBlock = some g ∨ w.heap.size ≤ g) := ⟨_, rfl⟩
  have hd : ∀ W, W = w.drew → Calls Try.prog 36 #[.pointer (some ⟨C, 0, none⟩), .pointer (some ⟨T, o, none⟩)] W fun e w' => e = .returned (.tuple #[]) ∧ R w' := by
    intro W hW
    subst hW
    rw [hR]
    refine (name_wr (w := w.drew) ⟨h.blk, h.own⟩ hb hL l hl (T := T) (o := o) hT ho h1 h2).mono fun e w' ⟨he, v', a1, a2, a3, a4⟩ => ⟨he, v', ?_, a2, (Mod.refl _ w).drew.trans a3, a4⟩
    rw [nameB', ← List.append_assoc]
    exact a1
  have c0 := blk_cell hx.c 0
  have c1 := blk_cell hx.t 0
  simp at c0 c1
  suffices hs : Calls Try.prog 51 #[.pointer (some ⟨bc, 0, none⟩), .pointer (some ⟨bt, 0, none⟩)] w fun e w' => e = .returned (.tuple #[]) ∧ R w' by
    rw [hR] at hs; exact hs
  have HD := Lib.hid hd
  clear h hb hL hx hl hT ho hd hR
  go_enter Try.func51, Try.ntmps51
  go_wp2_with fail
  go_region_law (first | (go_simp; go_at_call 36; refine (HD.out _ rfl).mono ?_; rintro e w1 ⟨rfl, hr⟩; have HW := Lib.hid hr; clear hr))
  all_goals
    go_wp2
    first | go_end0 | (simp only [Exit.inBlock, Exit.then]; refine bodyPost_ret (results_none rfl _ _ _) rfl ?_) | refine bodyPost_ret (results_none rfl _ _ _) rfl ?_
    exact ⟨rfl, HW.out⟩
set_option maxRecDepth 100000 in
theorem ten_name_rd {S : Nat → Prop} {w : World} {C : Nat} {A : Option Addr} {c at_ : Nat} {sh : Bool} (B : List UInt8) (hb : w.heap[C]? = some (rdObj A B.length c at_ sh)) (hrow : RowAt S w A (bcells B)) (hat : at_ ≤ B.length) (hc : B.length ≤ c) (hB : B.length ≤ 100000000) (hS : ¬ S C) {bc bt T o : Nat} (hx : Boxes w bc bt C T o)
    (l0 : List UInt8) (hl : l0.length ≤ 100000000) {cs : Array Value} {t : TypeId} (hT : w.heap[T]? = some (.cells cs t (0, 0))) (ho : cs[o]? = some (.string (str l0))) (h1 : T ≠ C) :
    Calls Try.prog 51 #[.pointer (some ⟨bc, 0, none⟩), .pointer (some ⟨bt, 0, none⟩)] w fun e w' => e = .returned (.tuple #[]) ∧ w'.heap[C]? = some (rdObj A B.length c (rname B (at_, sh)).2.1 (rname B (at_, sh)).2.2) ∧
      w'.heap[T]? = some (.cells (cs.setIfInBounds o (.string (str (rname B (at_, sh)).1))) t (0, 0)) ∧ Mod (fun b => b = C ∨ b = T) w w' := by
  obtain ⟨R, hR⟩ : ∃ R : World → Prop, R = fun w' => w'.heap[C]? = some (rdObj A B.length c (rname B (at_, sh)).2.1 (rname B (at_, sh)).2.2) ∧
      w'.heap[T]? = some (.cells (cs.setIfInBounds o (.string (str (rname B (at_, sh)).1))) t (0, 0)) ∧ Mod (fun b => b = C ∨ b = T) w w' := ⟨_, rfl⟩
  have hd : ∀ W, W = w.drew → Calls Try.prog 36 #[.pointer (some ⟨C, 0, none⟩), .pointer (some ⟨T, o, none⟩)] W fun e w' => e = .returned (.tuple #[]) ∧ R w' := by
    intro W hW
    subst hW
    rw [hR]
    exact (name_rd (w := w.drew) B hb (hrow.keeps (Mod.keeps (Mod.drew (Mod.refl No w)) (fun _ _ _ f => f))) hat hc hB hS l0 hl (T := T) (o := o) hT ho h1).mono fun e w' ⟨e1, e2, e3, e4⟩ => ⟨e1, e2, e3, (Mod.refl _ w).drew.trans e4⟩
  have c0 := blk_cell hx.c 0
  have c1 := blk_cell hx.t 0
  simp at c0 c1
  suffices hs : Calls Try.prog 51 #[.pointer (some ⟨bc, 0, none⟩), .pointer (some ⟨bt, 0, none⟩)] w fun e w' => e = .returned (.tuple #[]) ∧ R w' by
    rw [hR] at hs; exact hs
  have HD := Lib.hid hd
  clear hb hrow hat hc hB hS hx hl hT ho hd hR
  go_enter Try.func51, Try.ntmps51
  go_wp2_with fail
  go_region_law (first | (go_simp; go_at_call 36; refine (HD.out _ rfl).mono ?_; rintro e w1 ⟨rfl, hr⟩; have HW := Lib.hid hr; clear hr))
  all_goals
    go_wp2
    first | go_end0 | (simp only [Exit.inBlock, Exit.then]; refine bodyPost_ret (results_none rfl _ _ _) rfl ?_) | refine bodyPost_ret (results_none rfl _ _ _) rfl ?_
    exact ⟨rfl, HW.out⟩

end Go.Proofs.Ytcnemhhbihhcfaa
