/-
  CfgN, CfgO, CfgP, CfgQ, CfgI, CfgJ, CfgK, CfgR in one text (pack.py).
-/
import Derived.Test.YtpkieilmlnlpkaaGreatW2
import Derived.Laws.Rows
import Derived.Lib.BufferRead
namespace Go.Proofs.YtpkieilmlnlpkaaGreat

section
attribute [local go_sem] stPair gtPair gtK8 gtM6
attribute [local go_sem high] neqPair eqK8 eqM6
open Go.RowKit
set_option linter.unusedVariables false
/-- A name's bytes behind its length. -/
def nameB' (l : List UInt8) : List UInt8 := be 1 (min l.length 255) ++ l.take 255
set_option maxRecDepth 100000 in
theorem ten_key_wr {w : World} {C base : Nat} {L : List UInt8} {v : Value} {bc bt T o : Nat} (h : Wr w C base L v) (hb : base ≤ w.heap.size) (hL : L.length ≤ 90000000) (hx : Boxes w bc bt C T o)
    (X : List UInt8) (hXl : X.length = 8) (hX : ∀ j u, (bcells X)[j]? = some u → w.cell? ⟨T, o + 2 + j, none⟩ = some u) :
    Calls Tryz.prog 66 #[.pointer (some ⟨bc, 0, none⟩), .pointer (some ⟨bt, 0, none⟩)] w fun e w' => e = .returned (.tuple #[]) ∧ ∃ v', Wr w' C base (L ++ X) v' ∧ WMod C v w v' w' := by
  have hd : ∀ W, W = w.drew → Calls Tryz.prog 67 #[.pointer (some ⟨C, 0, none⟩), .slice (some ⟨T, o + 2, none⟩) 8 8] W fun e w' => e = .returned (.tuple #[]) ∧ ∃ v', Wr w' C base (L ++ X) v' ∧ WMod C v w v' w' := by
    intro W hW
    subst hW
    have hby := bytes_wr (w := w.drew) ⟨h.blk, h.own⟩ hb X (by omega) ⟨T, o + 2, none⟩ 8 (fun j u hj => by rw [Addr.add_lit]; exact hX j u hj)
    rw [hXl] at hby
    exact hby.mono fun e w' ⟨he, v', a1, a2⟩ => ⟨he, v', a1, ⟨(Mod.refl _ w).drew.trans a2.mod, a2.row⟩⟩
  have c0 := blk_cell hx.c 0
  have c1 := blk_cell hx.t 0
  simp at c0 c1
  have HD := Lib.hid hd
  clear h hb hL hx hX hXl hd
  go_enter Tryz.func66, Tryz.ntmps66
  go_wp2_with fail
  go_region_law (first | (go_simp; go_at_call 67; refine (HD.out _ rfl).mono ?_; rintro e w1 ⟨rfl, v', hw1, hm1⟩; have HW := Lib.hid (And.intro hw1 hm1); clear hw1 hm1))
  all_goals
    go_wp2
    first | go_end0 | (simp only [Exit.inBlock, Exit.then]; refine bodyPost_ret (results_none rfl _ _ _) rfl ?_) | refine bodyPost_ret (results_none rfl _ _ _) rfl ?_
    exact ⟨rfl, v', HW.out.1, HW.out.2⟩
set_option maxRecDepth 100000 in
theorem ten_key_rd {S : Nat → Prop} {w : World} {C : Nat} {A : Option Addr} {c at_ : Nat} {sh : Bool} (B : List UInt8) (hb : w.heap[C]? = some (rdObj A B.length c at_ sh)) (hrow : RowAt S w A (bcells B)) (hat : at_ ≤ B.length) (hc : B.length ≤ c) (hB : B.length ≤ 100000000) (hS : ¬ S C) {bc bt T o : Nat} (hx : Boxes w bc bt C T o)
    {cs : List Value} {t : TypeId} (hT : w.heap[T]? = some (.cells cs.toArray t (0, 0))) (ho : o + 2 + 8 ≤ cs.length) (h1 : T ≠ C) :
    Calls Tryz.prog 66 #[.pointer (some ⟨bc, 0, none⟩), .pointer (some ⟨bt, 0, none⟩)] w fun e w' => e = .returned (.tuple #[]) ∧ w'.heap[C]? = some (rdObj A B.length c (rtake B (at_, sh) 8).2.1 (rtake B (at_, sh) 8).2.2) ∧
      w'.heap[T]? = some (.cells (splice cs (o + 2) (bcells (rtake B (at_, sh) 8).1)).toArray t (0, 0)) ∧ Mod (fun b => b = C ∨ b = T) w w' := by
  obtain ⟨R, hR⟩ : ∃ R : World → Prop, R = fun w' => w'.heap[C]? = some (rdObj A B.length c (rtake B (at_, sh) 8).2.1 (rtake B (at_, sh) 8).2.2) ∧
      w'.heap[T]? = some (.cells (splice cs (o + 2) (bcells (rtake B (at_, sh) 8).1)).toArray t (0, 0)) ∧ Mod (fun b => b = C ∨ b = T) w w' := ⟨_, rfl⟩
  have hd : ∀ W, W = w.drew → Calls Tryz.prog 67 #[.pointer (some ⟨C, 0, none⟩), .slice (some ⟨T, o + 2, none⟩) 8 8] W fun e w' => e = .returned (.tuple #[]) ∧ R w' := by
    intro W hW
    subst hW
    rw [hR]
    exact (bytes_rd (w := w.drew) B hb (hrow.keeps (Mod.keeps (Mod.drew (Mod.refl No w)) (fun _ _ _ f => f))) hat hc hB 8 (by decide) hS hT ho h1).mono fun e w' ⟨e1, e2, e3, e4⟩ => ⟨e1, e2, e3, (Mod.refl _ w).drew.trans e4⟩
  have c0 := blk_cell hx.c 0
  have c1 := blk_cell hx.t 0
  simp at c0 c1
  suffices hs : Calls Tryz.prog 66 #[.pointer (some ⟨bc, 0, none⟩), .pointer (some ⟨bt, 0, none⟩)] w fun e w' => e = .returned (.tuple #[]) ∧ R w' by
    rw [hR] at hs; exact hs
  have HD := Lib.hid hd
  clear hb hrow hat hc hB hS hx hT ho hd hR
  go_enter Tryz.func66, Tryz.ntmps66
  go_wp2_with fail
  go_region_law (first | (go_simp; go_at_call 67; refine (HD.out _ rfl).mono ?_; rintro e w1 ⟨rfl, hr⟩; have HW := Lib.hid hr; clear hr))
  all_goals
    go_wp2
    first | go_end0 | (simp only [Exit.inBlock, Exit.then]; refine bodyPost_ret (results_none rfl _ _ _) rfl ?_) | refine bodyPost_ret (results_none rfl _ _ _) rfl ?_
    exact ⟨rfl, HW.out⟩
set_option maxRecDepth 100000 in
theorem ten_vmac_wr {w : World} {C base : Nat} {L : List UInt8} {v : Value} {bc bt T o : Nat} (h : Wr w C base L v) (hb : base ≤ w.heap.size) (hL : L.length ≤ 90000000) (hx : Boxes w bc bt C T o)
    (X : List UInt8) (hXl : X.length = 6) (hX : ∀ j u, (bcells X)[j]? = some u → w.cell? ⟨T, o + 11 + j, none⟩ = some u) :
    Calls Tryz.prog 69 #[.pointer (some ⟨bc, 0, none⟩), .pointer (some ⟨bt, 0, none⟩)] w fun e w' => e = .returned (.tuple #[]) ∧ ∃ v', Wr w' C base (L ++ X) v' ∧ WMod C v w v' w' := by
  have hd : ∀ W, W = w.drew → Calls Tryz.prog 67 #[.pointer (some ⟨C, 0, none⟩), .slice (some ⟨T, o + 11, none⟩) 6 6] W fun e w' => e = .returned (.tuple #[]) ∧ ∃ v', Wr w' C base (L ++ X) v' ∧ WMod C v w v' w' := by
    intro W hW
    subst hW
    have hby := bytes_wr (w := w.drew) ⟨h.blk, h.own⟩ hb X (by omega) ⟨T, o + 11, none⟩ 6 (fun j u hj => by rw [Addr.add_lit]; exact hX j u hj)
    rw [hXl] at hby
    exact hby.mono fun e w' ⟨he, v', a1, a2⟩ => ⟨he, v', a1, ⟨(Mod.refl _ w).drew.trans a2.mod, a2.row⟩⟩
  have c0 := blk_cell hx.c 0
  have c1 := blk_cell hx.t 0
  simp at c0 c1
  have HD := Lib.hid hd
  clear h hb hL hx hX hXl hd
  go_enter Tryz.func69, Tryz.ntmps69
  go_wp2_with fail
  go_region_law (first | (go_simp; go_at_call 67; refine (HD.out _ rfl).mono ?_; rintro e w1 ⟨rfl, v', hw1, hm1⟩; have HW := Lib.hid (And.intro hw1 hm1); clear hw1 hm1))
  all_goals
    go_wp2
    first | go_end0 | (simp only [Exit.inBlock, Exit.then]; refine bodyPost_ret (results_none rfl _ _ _) rfl ?_) | refine bodyPost_ret (results_none rfl _ _ _) rfl ?_
    exact ⟨rfl, v', HW.out.1, HW.out.2⟩
set_option maxRecDepth 100000 in
theorem ten_vmac_rd {S : Nat → Prop} {w : World} {C : Nat} {A : Option Addr} {c at_ : Nat} {sh : Bool} (B : List UInt8) (hb : w.heap[C]? = some (rdObj A B.length c at_ sh)) (hrow : RowAt S w A (bcells B)) (hat : at_ ≤ B.length) (hc : B.length ≤ c) (hB : B.length ≤ 100000000) (hS : ¬ S C) {bc bt T o : Nat} (hx : Boxes w bc bt C T o)
    {cs : List Value} {t : TypeId} (hT : w.heap[T]? = some (.cells cs.toArray t (0, 0))) (ho : o + 11 + 6 ≤ cs.length) (h1 : T ≠ C) :
    Calls Tryz.prog 69 #[.pointer (some ⟨bc, 0, none⟩), .pointer (some ⟨bt, 0, none⟩)] w fun e w' => e = .returned (.tuple #[]) ∧ w'.heap[C]? = some (rdObj A B.length c (rtake B (at_, sh) 6).2.1 (rtake B (at_, sh) 6).2.2) ∧
      w'.heap[T]? = some (.cells (splice cs (o + 11) (bcells (rtake B (at_, sh) 6).1)).toArray t (0, 0)) ∧ Mod (fun b => b = C ∨ b = T) w w' := by
  obtain ⟨R, hR⟩ : ∃ R : World → Prop, R = fun w' => w'.heap[C]? = some (rdObj A B.length c (rtake B (at_, sh) 6).2.1 (rtake B (at_, sh) 6).2.2) ∧
      w'.heap[T]? = some (.cells (splice cs (o + 11) (bcells (rtake B (at_, sh) 6).1)).toArray t (0, 0)) ∧ Mod (fun b => b = C ∨ b = T) w w' := ⟨_, rfl⟩
  have hd : ∀ W, W = w.drew → Calls Tryz.prog 67 #[.pointer (some ⟨C, 0, none⟩), .slice (some ⟨T, o + 11, none⟩) 6 6] W fun e w' => e = .returned (.tuple #[]) ∧ R w' := by
    intro W hW
    subst hW
    rw [hR]
    exact (bytes_rd (w := w.drew) B hb (hrow.keeps (Mod.keeps (Mod.drew (Mod.refl No w)) (fun _ _ _ f => f))) hat hc hB 6 (by decide) hS hT ho h1).mono fun e w' ⟨e1, e2, e3, e4⟩ => ⟨e1, e2, e3, (Mod.refl _ w).drew.trans e4⟩
  have c0 := blk_cell hx.c 0
  have c1 := blk_cell hx.t 0
  simp at c0 c1
  suffices hs : Calls Tryz.prog 69 #[.pointer (some ⟨bc, 0, none⟩), .pointer (some ⟨bt, 0, none⟩)] w fun e w' => e = .returned (.tuple #[]) ∧ R w' by
    rw [hR] at hs; exact hs
  have HD := Lib.hid hd
  clear hb hrow hat hc hB hS hx hT ho hd hR
  go_enter Tryz.func69, Tryz.ntmps69
  go_wp2_with fail
  go_region_law (first | (go_simp; go_at_call 67; refine (HD.out _ rfl).mono ?_; rintro e w1 ⟨rfl, hr⟩; have HW := Lib.hid hr; clear hr))
  all_goals
    go_wp2
    first | go_end0 | (simp only [Exit.inBlock, Exit.then]; refine bodyPost_ret (results_none rfl _ _ _) rfl ?_) | refine bodyPost_ret (results_none rfl _ _ _) rfl ?_
    exact ⟨rfl, HW.out⟩
set_option maxRecDepth 100000 in
theorem ten_host_wr {w : World} {C base : Nat} {L : List UInt8} {v : Value} {bc bt T o : Nat} (h : Wr w C base L v) (hb : base ≤ w.heap.size) (hL : L.length ≤ 90000000) (hx : Boxes w bc bt C T o)
    (X : List UInt8) (hXl : X.length = 6) (hX : ∀ j u, (bcells X)[j]? = some u → w.cell? ⟨T, o + 17 + j, none⟩ = some u) :
    Calls Tryz.prog 70 #[.pointer (some ⟨bc, 0, none⟩), .pointer (some ⟨bt, 0, none⟩)] w fun e w' => e = .returned (.tuple #[]) ∧ ∃ v', Wr w' C base (L ++ X) v' ∧ WMod C v w v' w' := by
  have hd : ∀ W, W = w.drew → Calls Tryz.prog 67 #[.pointer (some ⟨C, 0, none⟩), .slice (some ⟨T, o + 17, none⟩) 6 6] W fun e w' => e = .returned (.tuple #[]) ∧ ∃ v', Wr w' C base (L ++ X) v' ∧ WMod C v w v' w' := by
    intro W hW
    subst hW
    have hby := bytes_wr (w := w.drew) ⟨h.blk, h.own⟩ hb X (by omega) ⟨T, o + 17, none⟩ 6 (fun j u hj => by rw [Addr.add_lit]; exact hX j u hj)
    rw [hXl] at hby
    exact hby.mono fun e w' ⟨he, v', a1, a2⟩ => ⟨he, v', a1, ⟨(Mod.refl _ w).drew.trans a2.mod, a2.row⟩⟩
  have c0 := blk_cell hx.c 0
  have c1 := blk_cell hx.t 0
  simp at c0 c1
  have HD := Lib.hid hd
  clear h hb hL hx hX hXl hd
  go_enter Tryz.func70, Tryz.ntmps70
  go_wp2_with fail
  go_region_law (first | (go_simp; go_at_call 67; refine (HD.out _ rfl).mono ?_; rintro e w1 ⟨rfl, v', hw1, hm1⟩; have HW := Lib.hid (And.intro hw1 hm1); clear hw1 hm1))
  all_goals
    go_wp2
    first | go_end0 | (simp only [Exit.inBlock, Exit.then]; refine bodyPost_ret (results_none rfl _ _ _) rfl ?_) | refine bodyPost_ret (results_none rfl _ _ _) rfl ?_
    exact ⟨rfl, v', HW.out.1, HW.out.2⟩
set_option maxRecDepth 100000 in
theorem ten_host_rd {S : Nat → Prop} {w : World} {C : Nat} {A : Option Addr} {c at_ : Nat} {sh : Bool} (B : List UInt8) (hb : w.heap[C]? = some (rdObj A B.length c at_ sh)) (hrow : RowAt S w A (bcells B)) (hat : at_ ≤ B.length) (hc : B.length ≤ c) (hB : B.length ≤ 100000000) (hS : ¬ S C) {bc bt T o : Nat} (hx : Boxes w bc bt C T o)
    {cs : List Value} {t : TypeId} (hT : w.heap[T]? = some (.cells cs.toArray t (0, 0))) (ho : o + 17 + 6 ≤ cs.length) (h1 : T ≠ C) :
    Calls Tryz.prog 70 #[.pointer (some ⟨bc, 0, none⟩), .pointer (some ⟨bt, 0, none⟩)] w fun e w' => e = .returned (.tuple #[]) ∧ w'.heap[C]? = some (rdObj A B.length c (rtake B (at_, sh) 6).2.1 (rtake B (at_, sh) 6).2.2) ∧
      w'.heap[T]? = some (.cells (splice cs (o + 17) (bcells (rtake B (at_, sh) 6).1)).toArray t (0, 0)) ∧ Mod (fun b => b = C ∨ b = T) w w' := by
  obtain ⟨R, hR⟩ : ∃ R : World → Prop, R = fun w' => w'.heap[C]? = some (rdObj A B.length c (rtake B (at_, sh) 6).2.1 (rtake B (at_, sh) 6).2.2) ∧
      w'.heap[T]? = some (.cells (splice cs (o + 17) (bcells (rtake B (at_, sh) 6).1)).toArray t (0, 0)) ∧ Mod (fun b => b = C ∨ b = T) w w' := ⟨_, rfl⟩
  have hd : ∀ W, W = w.drew → Calls Tryz.prog 67 #[.pointer (some ⟨C, 0, none⟩), .slice (some ⟨T, o + 17, none⟩) 6 6] W fun e w' => e = .returned (.tuple #[]) ∧ R w' := by
    intro W hW
    subst hW
    rw [hR]
    exact (bytes_rd (w := w.drew) B hb (hrow.keeps (Mod.keeps (Mod.drew (Mod.refl No w)) (fun _ _ _ f => f))) hat hc hB 6 (by decide) hS hT ho h1).mono fun e w' ⟨e1, e2, e3, e4⟩ => ⟨e1, e2, e3, (Mod.refl _ w).drew.trans e4⟩
  have c0 := blk_cell hx.c 0
  have c1 := blk_cell hx.t 0
  simp at c0 c1
  suffices hs : Calls Tryz.prog 70 #[.pointer (some ⟨bc, 0, none⟩), .pointer (some ⟨bt, 0, none⟩)] w fun e w' => e = .returned (.tuple #[]) ∧ R w' by
    rw [hR] at hs; exact hs
  have HD := Lib.hid hd
  clear hb hrow hat hc hB hS hx hT ho hd hR
  go_enter Tryz.func70, Tryz.ntmps70
  go_wp2_with fail
  go_region_law (first | (go_simp; go_at_call 67; refine (HD.out _ rfl).mono ?_; rintro e w1 ⟨rfl, hr⟩; have HW := Lib.hid hr; clear hr))
  all_goals
    go_wp2
    first | go_end0 | (simp only [Exit.inBlock, Exit.then]; refine bodyPost_ret (results_none rfl _ _ _) rfl ?_) | refine bodyPost_ret (results_none rfl _ _ _) rfl ?_
    exact ⟨rfl, HW.out⟩
set_option maxRecDepth 100000 in
theorem ten_name_wr {w : World} {C base : Nat} {L : List UInt8} {v : Value} {bc bt T o : Nat} (h : Wr w C base L v) (hb : base ≤ w.heap.size) (hL : L.length ≤ 80000000) (hx : Boxes w bc bt C T o)
    (l : List UInt8) (hl : l.length ≤ 100000000) {cs : Array Value} {t : TypeId} (hT : w.heap[T]? = some (.cells cs t (0, 0))) (ho : cs[o]? = some (.string (str l))) (h1 : T ≠ C) (h2 : v.ownBlock ≠ some T) :
    Calls Tryz.prog 64 #[.pointer (some ⟨bc, 0, none⟩), .pointer (some ⟨bt, 0, none⟩)] w fun e w' => e = .returned (.tuple #[]) ∧ ∃ v', Wr w' C base (L ++ nameB' l) v' ∧
      w'.heap[T]? = some (.cells (cs.setIfInBounds o (.string (str (l.take 255)))) t (0, 0)) ∧ Mod (fun b => b = C ∨ v.ownBlock = some b ∨ b = T) w w' ∧ (∀ g, v'.ownBlock = some g → v.ownBlock = some g ∨ w.heap.size ≤ g) := by
  obtain ⟨R, hR⟩ : ∃ R : World → Prop, R = fun w' => ∃ v', Wr w' C base (L ++ nameB' l) v' ∧
      w'.heap[T]? = some (.cells (cs.setIfInBounds o (.string (str (l.take 255)))) t (0, 0)) ∧ Mod (fun b => b = C ∨ v.ownBlock = some b ∨ b = T) w w' ∧ (∀ g, v'.ownBlock = some g → v.ownBlock = some g ∨ w.heap.size ≤ g) := ⟨_, rfl⟩
  have hd : ∀ W, W = w.drew → Calls Tryz.prog 52 #[.pointer (some ⟨C, 0, none⟩), .pointer (some ⟨T, o, none⟩)] W fun e w' => e = .returned (.tuple #[]) ∧ R w' := by
    intro W hW
    subst hW
    rw [hR]
    refine (name_wr (w := w.drew) ⟨h.blk, h.own⟩ hb hL l hl (T := T) (o := o) hT ho h1 h2).mono fun e w' ⟨he, v', a1, a2, a3, a4⟩ => ⟨he, v', ?_, a2, (Mod.refl _ w).drew.trans a3, a4⟩
    rw [nameB', ← List.append_assoc]
    exact a1
  have c0 := blk_cell hx.c 0
  have c1 := blk_cell hx.t 0
  simp at c0 c1
  suffices hs : Calls Tryz.prog 64 #[.pointer (some ⟨bc, 0, none⟩), .pointer (some ⟨bt, 0, none⟩)] w fun e w' => e = .returned (.tuple #[]) ∧ R w' by
    rw [hR] at hs; exact hs
  have HD := Lib.hid hd
  clear h hb hL hx hl hT ho hd hR
  go_enter Tryz.func64, Tryz.ntmps64
  go_wp2_with fail
  go_region_law (first | (go_simp; go_at_call 52; refine (HD.out _ rfl).mono ?_; rintro e w1 ⟨rfl, hr⟩; have HW := Lib.hid hr; clear hr))
  all_goals
    go_wp2
    first | go_end0 | (simp only [Exit.inBlock, Exit.then]; refine bodyPost_ret (results_none rfl _ _ _) rfl ?_) | refine bodyPost_ret (results_none rfl _ _ _) rfl ?_
    exact ⟨rfl, HW.out⟩
set_option maxRecDepth 100000 in
theorem ten_name_rd {S : Nat → Prop} {w : World} {C : Nat} {A : Option Addr} {c at_ : Nat} {sh : Bool} (B : List UInt8) (hb : w.heap[C]? = some (rdObj A B.length c at_ sh)) (hrow : RowAt S w A (bcells B)) (hat : at_ ≤ B.length) (hc : B.length ≤ c) (hB : B.length ≤ 100000000) (hS : ¬ S C) {bc bt T o : Nat} (hx : Boxes w bc bt C T o)
    (l0 : List UInt8) (hl : l0.length ≤ 100000000) {cs : Array Value} {t : TypeId} (hT : w.heap[T]? = some (.cells cs t (0, 0))) (ho : cs[o]? = some (.string (str l0))) (h1 : T ≠ C) :
    Calls Tryz.prog 64 #[.pointer (some ⟨bc, 0, none⟩), .pointer (some ⟨bt, 0, none⟩)] w fun e w' => e = .returned (.tuple #[]) ∧ w'.heap[C]? = some (rdObj A B.length c (rname B (at_, sh)).2.1 (rname B (at_, sh)).2.2) ∧
      w'.heap[T]? = some (.cells (cs.setIfInBounds o (.string (str (rname B (at_, sh)).1))) t (0, 0)) ∧ Mod (fun b => b = C ∨ b = T) w w' := by
  obtain ⟨R, hR⟩ : ∃ R : World → Prop, R = fun w' => w'.heap[C]? = some (rdObj A B.length c (rname B (at_, sh)).2.1 (rname B (at_, sh)).2.2) ∧
      w'.heap[T]? = some (.cells (cs.setIfInBounds o (.string (str (rname B (at_, sh)).1))) t (0, 0)) ∧ Mod (fun b => b = C ∨ b = T) w w' := ⟨_, rfl⟩
  have hd : ∀ W, W = w.drew → Calls Tryz.prog 52 #[.pointer (some ⟨C, 0, none⟩), .pointer (some ⟨T, o, none⟩)] W fun e w' => e = .returned (.tuple #[]) ∧ R w' := by
    intro W hW
    subst hW
    rw [hR]
    exact (name_rd (w := w.drew) B hb (hrow.keeps (Mod.keeps (Mod.drew (Mod.refl No w)) (fun _ _ _ f => f))) hat hc hB hS l0 hl (T := T) (o := o) hT ho h1).mono fun e w' ⟨e1, e2, e3, e4⟩ => ⟨e1, e2, e3, (Mod.refl _ w).drew.trans e4⟩
  have c0 := blk_cell hx.c 0
  have c1 := blk_cell hx.t 0
  simp at c0 c1
  suffices hs : Calls Tryz.prog 64 #[.pointer (some ⟨bc, 0, none⟩), .pointer (some ⟨bt, 0, none⟩)] w fun e w' => e = .returned (.tuple #[]) ∧ R w' by
    rw [hR] at hs; exact hs
  have HD := Lib.hid hd
  clear hb hrow hat hc hB hS hx hl hT ho hd hR
  go_enter Tryz.func64, Tryz.ntmps64
  go_wp2_with fail
  go_region_law (first | (go_simp; go_at_call 52; refine (HD.out _ rfl).mono ?_; rintro e w1 ⟨rfl, hr⟩; have HW := Lib.hid hr; clear hr))
  all_goals
    go_wp2
    first | go_end0 | (simp only [Exit.inBlock, Exit.then]; refine bodyPost_ret (results_none rfl _ _ _) rfl ?_) | refine bodyPost_ret (results_none rfl _ _ _) rfl ?_
    exact ⟨rfl, HW.out⟩
end

section
attribute [local go_sem] stPair gtPair gtK8 gtM6
attribute [local go_sem high] neqPair eqK8 eqM6
open Go.RowKit
set_option linter.unusedVariables false
set_option maxRecDepth 100000 in
theorem ten_npool_wr {w : World} {C base : Nat} {L : List UInt8} {v : Value} {bc bt bp T o : Nat} (h : Wr w C base L v) (hb : base ≤ w.heap.size) (hL : L.length ≤ 90000000) (hx : Boxes w bc bt C T o)
    {P : Option Addr} {n p : Nat} (hT : w.cell? ⟨T, o + 23, none⟩ = some (.slice P n p)) {x0 : Value} (hp : w.heap[bp]? = some (.cells #[x0] 3 (0, 0))) (h3 : bp ≠ C) (h4 : v.ownBlock ≠ some bp) :
    Calls Tryz.prog 80 #[.pointer (some ⟨bc, 0, none⟩), .pointer (some ⟨bt, 0, none⟩), .pointer (some ⟨bp, 0, none⟩)] w fun e w' => e = .returned (.tuple #[]) ∧ ∃ v', Wr w' C base (L ++ be 1 (min n 255)) v' ∧
      w'.heap[bp]? = some (.cells #[.int .i64 (min n 255 : Nat)] 3 (0, 0)) ∧ Mod (fun b => b = C ∨ v.ownBlock = some b ∨ b = bp) w w' ∧ (∀ g, v'.ownBlock = some g → v.ownBlock = some g ∨ w.heap.size ≤ g) := by
  obtain ⟨m, hm⟩ : ∃ m, m = min n 255 := ⟨_, rfl⟩
  rw [← hm]
  have hd : ∀ W, W = w.drew → Calls Tryz.prog 81 #[.pointer (some ⟨C, 0, none⟩), .int .i64 n] W fun e w' => e = .returned (.int .i64 m) ∧ w'.cell? ⟨bp, 0, none⟩ = some x0 ∧ w'.frozen? ⟨bp, 0, none⟩ = false ∧ ∃ v', Wr (w'.setCell ⟨bp, 0, none⟩ (.int .i64 m)) C base (L ++ be 1 m) v' ∧
      (w'.setCell ⟨bp, 0, none⟩ (.int .i64 m)).heap[bp]? = some (.cells #[.int .i64 m] 3 (0, 0)) ∧ Mod (fun b => b = C ∨ v.ownBlock = some b ∨ b = bp) w (w'.setCell ⟨bp, 0, none⟩ (.int .i64 m)) ∧ (∀ g, v'.ownBlock = some g → v.ownBlock = some g ∨ w.heap.size ≤ g) := by
    intro W hW
    subst hW
    have hc := count_wr (w := w.drew) ⟨h.blk, h.own⟩ hb hL n
    rw [← hm] at hc
    refine hc.mono fun e w' ⟨he, v', a1, a2⟩ => ?_
    have hp' : w'.heap[bp]? = some (.cells #[x0] 3 (0, 0)) := a2.obj (w := w.drew) hp h3 h4
    have hne : v'.ownBlock ≠ some bp := a1.ne hp' (by decide)
    refine ⟨he, (blk_cell hp' 0).trans rfl, blk_free hp' 0, v', ⟨?_, own_mod a1.own (Mod.setCell (p := ⟨bp, 0, none⟩) (Mod.refl (fun b => b = bp) w') (.inr rfl) _) (fun g hg e => hne (by rw [← e]; exact hg))⟩, ?_, ?_, fun g hg => a2.row g hg⟩
    · rw [heap_setCell_ne _ _ (fun e => h3 e.symm)]
      exact a1.blk
    · rw [heap_setCell_row hp']; simp
    · refine Mod.setCell ((Mod.refl _ w).drew.trans (a2.mod.mono (fun i hi => ?_))) (.inr (.inr (.inr rfl))) _
      rcases hi with h | h
      · exact .inl h
      · exact .inr (.inl h)
  have c0 := blk_cell hx.c 0
  have c1 := blk_cell hx.t 0
  simp at c0 c1
  obtain ⟨R, hR⟩ : ∃ R : World → Prop, R = fun w' => ∃ v', Wr w' C base (L ++ be 1 m) v' ∧ w'.heap[bp]? = some (.cells #[.int .i64 m] 3 (0, 0)) ∧ Mod (fun b => b = C ∨ v.ownBlock = some b ∨ b = bp) w w' ∧ (∀ g, v'.ownBlock = some g → v.ownBlock = some g ∨ w.heap.size ≤ g) := ⟨_, rfl⟩
  have hd' : ∀ W, W = w.drew → Calls Tryz.prog 81 #[.pointer (some ⟨C, 0, none⟩), .int .i64 n] W fun e w' => e = .returned (.int .i64 m) ∧ w'.cell? ⟨bp, 0, none⟩ = some x0 ∧ w'.frozen? ⟨bp, 0, none⟩ = false ∧ R (w'.setCell ⟨bp, 0, none⟩ (.int .i64 m)) := by
    rw [hR]; exact hd
  suffices hs : Calls Tryz.prog 80 #[.pointer (some ⟨bc, 0, none⟩), .pointer (some ⟨bt, 0, none⟩), .pointer (some ⟨bp, 0, none⟩)] w fun e w' => e = .returned (.tuple #[]) ∧ R w' by
    rw [hR] at hs; exact hs
  have HD := Lib.hid hd'
  clear h hb hL hx hp h3 h4 hd hd' hR hm
  go_enter Tryz.func80, Tryz.ntmps80
  go_wp2_with fail
  go_region_law (first | (go_simp; go_at_call 81; refine (HD.out _ rfl).mono ?_; rintro e w1 ⟨rfl, d1, f1, hr⟩; have HW := Lib.hid hr; clear hr))
  all_goals
    go_wp2
    first | go_end0 | (simp only [Exit.inBlock, Exit.then]; refine bodyPost_ret (results_none rfl _ _ _) rfl ?_) | refine bodyPost_ret (results_none rfl _ _ _) rfl ?_
    exact ⟨rfl, HW.out⟩
set_option maxRecDepth 100000 in
theorem ten_nstatics_wr {w : World} {C base : Nat} {L : List UInt8} {v : Value} {bc bt bp T o : Nat} (h : Wr w C base L v) (hb : base ≤ w.heap.size) (hL : L.length ≤ 90000000) (hx : Boxes w bc bt C T o)
    {P : Option Addr} {n p : Nat} (hT : w.cell? ⟨T, o + 27, none⟩ = some (.slice P n p)) {x0 : Value} (hp : w.heap[bp]? = some (.cells #[x0] 3 (0, 0))) (h3 : bp ≠ C) (h4 : v.ownBlock ≠ some bp) :
    Calls Tryz.prog 82 #[.pointer (some ⟨bc, 0, none⟩), .pointer (some ⟨bt, 0, none⟩), .pointer (some ⟨bp, 0, none⟩)] w fun e w' => e = .returned (.tuple #[]) ∧ ∃ v', Wr w' C base (L ++ be 1 (min n 255)) v' ∧
      w'.heap[bp]? = some (.cells #[.int .i64 (min n 255 : Nat)] 3 (0, 0)) ∧ Mod (fun b => b = C ∨ v.ownBlock = some b ∨ b = bp) w w' ∧ (∀ g, v'.ownBlock = some g → v.ownBlock = some g ∨ w.heap.size ≤ g) := by
  obtain ⟨m, hm⟩ : ∃ m, m = min n 255 := ⟨_, rfl⟩
  rw [← hm]
  have hd : ∀ W, W = w.drew → Calls Tryz.prog 81 #[.pointer (some ⟨C, 0, none⟩), .int .i64 n] W fun e w' => e = .returned (.int .i64 m) ∧ w'.cell? ⟨bp, 0, none⟩ = some x0 ∧ w'.frozen? ⟨bp, 0, none⟩ = false ∧ ∃ v', Wr (w'.setCell ⟨bp, 0, none⟩ (.int .i64 m)) C base (L ++ be 1 m) v' ∧
      (w'.setCell ⟨bp, 0, none⟩ (.int .i64 m)).heap[bp]? = some (.cells #[.int .i64 m] 3 (0, 0)) ∧ Mod (fun b => b = C ∨ v.ownBlock = some b ∨ b = bp) w (w'.setCell ⟨bp, 0, none⟩ (.int .i64 m)) ∧ (∀ g, v'.ownBlock = some g → v.ownBlock = some g ∨ w.heap.size ≤ g) := by
    intro W hW
    subst hW
    have hc := count_wr (w := w.drew) ⟨h.blk, h.own⟩ hb hL n
    rw [← hm] at hc
    refine hc.mono fun e w' ⟨he, v', a1, a2⟩ => ?_
    have hp' : w'.heap[bp]? = some (.cells #[x0] 3 (0, 0)) := a2.obj (w := w.drew) hp h3 h4
    have hne : v'.ownBlock ≠ some bp := a1.ne hp' (by decide)
    refine ⟨he, (blk_cell hp' 0).trans rfl, blk_free hp' 0, v', ⟨?_, own_mod a1.own (Mod.setCell (p := ⟨bp, 0, none⟩) (Mod.refl (fun b => b = bp) w') (.inr rfl) _) (fun g hg e => hne (by rw [← e]; exact hg))⟩, ?_, ?_, fun g hg => a2.row g hg⟩
    · rw [heap_setCell_ne _ _ (fun e => h3 e.symm)]
      exact a1.blk
    · rw [heap_setCell_row hp']; simp
    · refine Mod.setCell ((Mod.refl _ w).drew.trans (a2.mod.mono (fun i hi => ?_))) (.inr (.inr (.inr rfl))) _
      rcases hi with h | h
      · exact .inl h
      · exact .inr (.inl h)
  have c0 := blk_cell hx.c 0
  have c1 := blk_cell hx.t 0
  simp at c0 c1
  obtain ⟨R, hR⟩ : ∃ R : World → Prop, R = fun w' => ∃ v', Wr w' C base (L ++ be 1 m) v' ∧ w'.heap[bp]? = some (.cells #[.int .i64 m] 3 (0, 0)) ∧ Mod (fun b => b = C ∨ v.ownBlock = some b ∨ b = bp) w w' ∧ (∀ g, v'.ownBlock = some g → v.ownBlock = some g ∨ w.heap.size ≤ g) := ⟨_, rfl⟩
  have hd' : ∀ W, W = w.drew → Calls Tryz.prog 81 #[.pointer (some ⟨C, 0, none⟩), .int .i64 n] W fun e w' => e = .returned (.int .i64 m) ∧ w'.cell? ⟨bp, 0, none⟩ = some x0 ∧ w'.frozen? ⟨bp, 0, none⟩ = false ∧ R (w'.setCell ⟨bp, 0, none⟩ (.int .i64 m)) := by
    rw [hR]; exact hd
  suffices hs : Calls Tryz.prog 82 #[.pointer (some ⟨bc, 0, none⟩), .pointer (some ⟨bt, 0, none⟩), .pointer (some ⟨bp, 0, none⟩)] w fun e w' => e = .returned (.tuple #[]) ∧ R w' by
    rw [hR] at hs; exact hs
  have HD := Lib.hid hd'
  clear h hb hL hx hp h3 h4 hd hd' hR hm
  go_enter Tryz.func82, Tryz.ntmps82
  go_wp2_with fail
  go_region_law (first | (go_simp; go_at_call 81; refine (HD.out _ rfl).mono ?_; rintro e w1 ⟨rfl, d1, f1, hr⟩; have HW := Lib.hid hr; clear hr))
  all_goals
    go_wp2
    first | go_end0 | (simp only [Exit.inBlock, Exit.then]; refine bodyPost_ret (results_none rfl _ _ _) rfl ?_) | refine bodyPost_ret (results_none rfl _ _ _) rfl ?_
    exact ⟨rfl, HW.out⟩
set_option maxRecDepth 100000 in
theorem ten_ntwices_wr {w : World} {C base : Nat} {L : List UInt8} {v : Value} {bc bt bp T o : Nat} (h : Wr w C base L v) (hb : base ≤ w.heap.size) (hL : L.length ≤ 90000000) (hx : Boxes w bc bt C T o)
    {P : Option Addr} {n p : Nat} (hT : w.cell? ⟨T, o + 28, none⟩ = some (.slice P n p)) {x0 : Value} (hp : w.heap[bp]? = some (.cells #[x0] 3 (0, 0))) (h3 : bp ≠ C) (h4 : v.ownBlock ≠ some bp) :
    Calls Tryz.prog 83 #[.pointer (some ⟨bc, 0, none⟩), .pointer (some ⟨bt, 0, none⟩), .pointer (some ⟨bp, 0, none⟩)] w fun e w' => e = .returned (.tuple #[]) ∧ ∃ v', Wr w' C base (L ++ be 1 (min n 255)) v' ∧
      w'.heap[bp]? = some (.cells #[.int .i64 (min n 255 : Nat)] 3 (0, 0)) ∧ Mod (fun b => b = C ∨ v.ownBlock = some b ∨ b = bp) w w' ∧ (∀ g, v'.ownBlock = some g → v.ownBlock = some g ∨ w.heap.size ≤ g) := by
  obtain ⟨m, hm⟩ : ∃ m, m = min n 255 := ⟨_, rfl⟩
  rw [← hm]
  have hd : ∀ W, W = w.drew → Calls Tryz.prog 81 #[.pointer (some ⟨C, 0, none⟩), .int .i64 n] W fun e w' => e = .returned (.int .i64 m) ∧ w'.cell? ⟨bp, 0, none⟩ = some x0 ∧ w'.frozen? ⟨bp, 0, none⟩ = false ∧ ∃ v', Wr (w'.setCell ⟨bp, 0, none⟩ (.int .i64 m)) C base (L ++ be 1 m) v' ∧
      (w'.setCell ⟨bp, 0, none⟩ (.int .i64 m)).heap[bp]? = some (.cells #[.int .i64 m] 3 (0, 0)) ∧ Mod (fun b => b = C ∨ v.ownBlock = some b ∨ b = bp) w (w'.setCell ⟨bp, 0, none⟩ (.int .i64 m)) ∧ (∀ g, v'.ownBlock = some g → v.ownBlock = some g ∨ w.heap.size ≤ g) := by
    intro W hW
    subst hW
    have hc := count_wr (w := w.drew) ⟨h.blk, h.own⟩ hb hL n
    rw [← hm] at hc
    refine hc.mono fun e w' ⟨he, v', a1, a2⟩ => ?_
    have hp' : w'.heap[bp]? = some (.cells #[x0] 3 (0, 0)) := a2.obj (w := w.drew) hp h3 h4
    have hne : v'.ownBlock ≠ some bp := a1.ne hp' (by decide)
    refine ⟨he, (blk_cell hp' 0).trans rfl, blk_free hp' 0, v', ⟨?_, own_mod a1.own (Mod.setCell (p := ⟨bp, 0, none⟩) (Mod.refl (fun b => b = bp) w') (.inr rfl) _) (fun g hg e => hne (by rw [← e]; exact hg))⟩, ?_, ?_, fun g hg => a2.row g hg⟩
    · rw [heap_setCell_ne _ _ (fun e => h3 e.symm)]
      exact a1.blk
    · rw [heap_setCell_row hp']; simp
    · refine Mod.setCell ((Mod.refl _ w).drew.trans (a2.mod.mono (fun i hi => ?_))) (.inr (.inr (.inr rfl))) _
      rcases hi with h | h
      · exact .inl h
      · exact .inr (.inl h)
  have c0 := blk_cell hx.c 0
  have c1 := blk_cell hx.t 0
  simp at c0 c1
  obtain ⟨R, hR⟩ : ∃ R : World → Prop, R = fun w' => ∃ v', Wr w' C base (L ++ be 1 m) v' ∧ w'.heap[bp]? = some (.cells #[.int .i64 m] 3 (0, 0)) ∧ Mod (fun b => b = C ∨ v.ownBlock = some b ∨ b = bp) w w' ∧ (∀ g, v'.ownBlock = some g → v.ownBlock = some g ∨ w.heap.size ≤ g) := ⟨_, rfl⟩
  have hd' : ∀ W, W = w.drew → Calls Tryz.prog 81 #[.pointer (some ⟨C, 0, none⟩), .int .i64 n] W fun e w' => e = .returned (.int .i64 m) ∧ w'.cell? ⟨bp, 0, none⟩ = some x0 ∧ w'.frozen? ⟨bp, 0, none⟩ = false ∧ R (w'.setCell ⟨bp, 0, none⟩ (.int .i64 m)) := by
    rw [hR]; exact hd
  suffices hs : Calls Tryz.prog 83 #[.pointer (some ⟨bc, 0, none⟩), .pointer (some ⟨bt, 0, none⟩), .pointer (some ⟨bp, 0, none⟩)] w fun e w' => e = .returned (.tuple #[]) ∧ R w' by
    rw [hR] at hs; exact hs
  have HD := Lib.hid hd'
  clear h hb hL hx hp h3 h4 hd hd' hR hm
  go_enter Tryz.func83, Tryz.ntmps83
  go_wp2_with fail
  go_region_law (first | (go_simp; go_at_call 81; refine (HD.out _ rfl).mono ?_; rintro e w1 ⟨rfl, d1, f1, hr⟩; have HW := Lib.hid hr; clear hr))
  all_goals
    go_wp2
    first | go_end0 | (simp only [Exit.inBlock, Exit.then]; refine bodyPost_ret (results_none rfl _ _ _) rfl ?_) | refine bodyPost_ret (results_none rfl _ _ _) rfl ?_
    exact ⟨rfl, HW.out⟩
set_option maxRecDepth 100000 in
theorem ten_npool_rd {S : Nat → Prop} {w : World} {C : Nat} {A : Option Addr} {c at_ : Nat} {sh : Bool} (B : List UInt8) (hb : w.heap[C]? = some (rdObj A B.length c at_ sh)) (hrow : RowAt S w A (bcells B)) (hat : at_ ≤ B.length) (hc : B.length ≤ c) (hB : B.length ≤ 100000000) (hS : ¬ S C) {bc bt bp T o : Nat} (hx : Boxes w bc bt C T o)
    {P : Option Addr} {n p : Nat} (hT : w.cell? ⟨T, o + 23, none⟩ = some (.slice P n p)) {x0 : Value} (hp : w.heap[bp]? = some (.cells #[x0] 3 (0, 0))) (h3 : bp ≠ C) :
    Calls Tryz.prog 80 #[.pointer (some ⟨bc, 0, none⟩), .pointer (some ⟨bt, 0, none⟩), .pointer (some ⟨bp, 0, none⟩)] w fun e w' => e = .returned (.tuple #[]) ∧ w'.heap[C]? = some (rdObj A B.length c (rtake B (at_, sh) 1).2.1 (rtake B (at_, sh) 1).2.2) ∧
      w'.heap[bp]? = some (.cells #[.int .i64 (beval (rtake B (at_, sh) 1).1)] 3 (0, 0)) ∧ Mod (fun b => b = C ∨ b = bp) w w' := by
  obtain ⟨m, hm⟩ : ∃ m, m = beval (rtake B (at_, sh) 1).1 := ⟨_, rfl⟩
  rw [← hm]
  obtain ⟨R, hR⟩ : ∃ R : World → Prop, R = fun w' => w'.heap[C]? = some (rdObj A B.length c (rtake B (at_, sh) 1).2.1 (rtake B (at_, sh) 1).2.2) ∧ w'.heap[bp]? = some (.cells #[.int .i64 m] 3 (0, 0)) ∧ Mod (fun b => b = C ∨ b = bp) w w' := ⟨_, rfl⟩
  have hd : ∀ W, W = w.drew → Calls Tryz.prog 81 #[.pointer (some ⟨C, 0, none⟩), .int .i64 n] W fun e w' => e = .returned (.int .i64 m) ∧ w'.cell? ⟨bp, 0, none⟩ = some x0 ∧ w'.frozen? ⟨bp, 0, none⟩ = false ∧ R (w'.setCell ⟨bp, 0, none⟩ (.int .i64 m)) := by
    intro W hW
    subst hW
    have hcr := count_rd (w := w.drew) B hb (hrow.keeps (Mod.keeps (Mod.drew (Mod.refl No w)) (fun _ _ _ f => f))) hat hc hB hS n
    rw [← hm] at hcr
    refine hcr.mono fun e w' ⟨he, a1, a2⟩ => ?_
    have hp' : w'.heap[bp]? = some (.cells #[x0] 3 (0, 0)) := a2.obj (w := w.drew) hp h3
    rw [hR]
    refine ⟨he, (blk_cell hp' 0).trans rfl, blk_free hp' 0, ?_, ?_, ?_⟩
    · rw [heap_setCell_ne _ _ (fun e => h3 e.symm)]
      exact a1
    · rw [heap_setCell_row hp']; simp
    · exact Mod.setCell ((Mod.refl _ w).drew.trans (a2.mono (fun i hi => .inl hi))) (.inr (.inr rfl)) _
  have c0 := blk_cell hx.c 0
  have c1 := blk_cell hx.t 0
  simp at c0 c1
  suffices hs : Calls Tryz.prog 80 #[.pointer (some ⟨bc, 0, none⟩), .pointer (some ⟨bt, 0, none⟩), .pointer (some ⟨bp, 0, none⟩)] w fun e w' => e = .returned (.tuple #[]) ∧ R w' by
    rw [hR] at hs; exact hs
  have HD := Lib.hid hd
  clear hb hrow hat hc hB hS hx hp h3 hd hR hm
  go_enter Tryz.func80, Tryz.ntmps80
  go_wp2_with fail
  go_region_law (first | (go_simp; go_at_call 81; refine (HD.out _ rfl).mono ?_; rintro e w1 ⟨rfl, d1, f1, hr⟩; have HW := Lib.hid hr; clear hr))
  all_goals
    go_wp2
    first | go_end0 | (simp only [Exit.inBlock, Exit.then]; refine bodyPost_ret (results_none rfl _ _ _) rfl ?_) | refine bodyPost_ret (results_none rfl _ _ _) rfl ?_
    exact ⟨rfl, HW.out⟩
set_option maxRecDepth 100000 in
theorem ten_nstatics_rd {S : Nat → Prop} {w : World} {C : Nat} {A : Option Addr} {c at_ : Nat} {sh : Bool} (B : List UInt8) (hb : w.heap[C]? = some (rdObj A B.length c at_ sh)) (hrow : RowAt S w A (bcells B)) (hat : at_ ≤ B.length) (hc : B.length ≤ c) (hB : B.length ≤ 100000000) (hS : ¬ S C) {bc bt bp T o : Nat} (hx : Boxes w bc bt C T o)
    {P : Option Addr} {n p : Nat} (hT : w.cell? ⟨T, o + 27, none⟩ = some (.slice P n p)) {x0 : Value} (hp : w.heap[bp]? = some (.cells #[x0] 3 (0, 0))) (h3 : bp ≠ C) :
    Calls Tryz.prog 82 #[.pointer (some ⟨bc, 0, none⟩), .pointer (some ⟨bt, 0, none⟩), .pointer (some ⟨bp, 0, none⟩)] w fun e w' => e = .returned (.tuple #[]) ∧ w'.heap[C]? = some (rdObj A B.length c (rtake B (at_, sh) 1).2.1 (rtake B (at_, sh) 1).2.2) ∧
      w'.heap[bp]? = some (.cells #[.int .i64 (beval (rtake B (at_, sh) 1).1)] 3 (0, 0)) ∧ Mod (fun b => b = C ∨ b = bp) w w' := by
  obtain ⟨m, hm⟩ : ∃ m, m = beval (rtake B (at_, sh) 1).1 := ⟨_, rfl⟩
  rw [← hm]
  obtain ⟨R, hR⟩ : ∃ R : World → Prop, R = fun w' => w'.heap[C]? = some (rdObj A B.length c (rtake B (at_, sh) 1).2.1 (rtake B (at_, sh) 1).2.2) ∧ w'.heap[bp]? = some (.cells #[.int .i64 m] 3 (0, 0)) ∧ Mod (fun b => b = C ∨ b = bp) w w' := ⟨_, rfl⟩
  have hd : ∀ W, W = w.drew → Calls Tryz.prog 81 #[.pointer (some ⟨C, 0, none⟩), .int .i64 n] W fun e w' => e = .returned (.int .i64 m) ∧ w'.cell? ⟨bp, 0, none⟩ = some x0 ∧ w'.frozen? ⟨bp, 0, none⟩ = false ∧ R (w'.setCell ⟨bp, 0, none⟩ (.int .i64 m)) := by
    intro W hW
    subst hW
    have hcr := count_rd (w := w.drew) B hb (hrow.keeps (Mod.keeps (Mod.drew (Mod.refl No w)) (fun _ _ _ f => f))) hat hc hB hS n
    rw [← hm] at hcr
    refine hcr.mono fun e w' ⟨he, a1, a2⟩ => ?_
    have hp' : w'.heap[bp]? = some (.cells #[x0] 3 (0, 0)) := a2.obj (w := w.drew) hp h3
    rw [hR]
    refine ⟨he, (blk_cell hp' 0).trans rfl, blk_free hp' 0, ?_, ?_, ?_⟩
    · rw [heap_setCell_ne _ _ (fun e => h3 e.symm)]
      exact a1
    · rw [heap_setCell_row hp']; simp
    · exact Mod.setCell ((Mod.refl _ w).drew.trans (a2.mono (fun i hi => .inl hi))) (.inr (.inr rfl)) _
  have c0 := blk_cell hx.c 0
  have c1 := blk_cell hx.t 0
  simp at c0 c1
  suffices hs : Calls Tryz.prog 82 #[.pointer (some ⟨bc, 0, none⟩), .pointer (some ⟨bt, 0, none⟩), .pointer (some ⟨bp, 0, none⟩)] w fun e w' => e = .returned (.tuple #[]) ∧ R w' by
    rw [hR] at hs; exact hs
  have HD := Lib.hid hd
  clear hb hrow hat hc hB hS hx hp h3 hd hR hm
  go_enter Tryz.func82, Tryz.ntmps82
  go_wp2_with fail
  go_region_law (first | (go_simp; go_at_call 81; refine (HD.out _ rfl).mono ?_; rintro e w1 ⟨rfl, d1, f1, hr⟩; have HW := Lib.hid hr; clear hr))
  all_goals
    go_wp2
    first | go_end0 | (simp only [Exit.inBlock, Exit.then]; refine bodyPost_ret (results_none rfl _ _ _) rfl ?_) | refine bodyPost_ret (results_none rfl _ _ _) rfl ?_
    exact ⟨rfl, HW.out⟩
set_option maxRecDepth 100000 in
theorem ten_ntwices_rd {S : Nat → Prop} {w : World} {C : Nat} {A : Option Addr} {c at_ : Nat} {sh : Bool} (B : List UInt8) (hb : w.heap[C]? = some (rdObj A B.length c at_ sh)) (hrow : RowAt S w A (bcells B)) (hat : at_ ≤ B.length) (hc : B.length ≤ c) (hB : B.length ≤ 100000000) (hS : ¬ S C) {bc bt bp T o : Nat} (hx : Boxes w bc bt C T o)
    {P : Option Addr} {n p : Nat} (hT : w.cell? ⟨T, o + 28, none⟩ = some (.slice P n p)) {x0 : Value} (hp : w.heap[bp]? = some (.cells #[x0] 3 (0, 0))) (h3 : bp ≠ C) :
    Calls Tryz.prog 83 #[.pointer (some ⟨bc, 0, none⟩), .pointer (some ⟨bt, 0, none⟩), .pointer (some ⟨bp, 0, none⟩)] w fun e w' => e = .returned (.tuple #[]) ∧ w'.heap[C]? = some (rdObj A B.length c (rtake B (at_, sh) 1).2.1 (rtake B (at_, sh) 1).2.2) ∧
      w'.heap[bp]? = some (.cells #[.int .i64 (beval (rtake B (at_, sh) 1).1)] 3 (0, 0)) ∧ Mod (fun b => b = C ∨ b = bp) w w' := by
  obtain ⟨m, hm⟩ : ∃ m, m = beval (rtake B (at_, sh) 1).1 := ⟨_, rfl⟩
  rw [← hm]
  obtain ⟨R, hR⟩ : ∃ R : World → Prop, R = fun w' => w'.heap[C]? = some (rdObj A B.length c (rtake B (at_, sh) 1).2.1 (rtake B (at_, sh) 1).2.2) ∧ w'.heap[bp]? = some (.cells #[.int .i64 m] 3 (0, 0)) ∧ Mod (fun b => b = C ∨ b = bp) w w' := ⟨_, rfl⟩
  have hd : ∀ W, W = w.drew → Calls Tryz.prog 81 #[.pointer (some ⟨C, 0, none⟩), .int .i64 n] W fun e w' => e = .returned (.int .i64 m) ∧ w'.cell? ⟨bp, 0, none⟩ = some x0 ∧ w'.frozen? ⟨bp, 0, none⟩ = false ∧ R (w'.setCell ⟨bp, 0, none⟩ (.int .i64 m)) := by
    intro W hW
    subst hW
    have hcr := count_rd (w := w.drew) B hb (hrow.keeps (Mod.keeps (Mod.drew (Mod.refl No w)) (fun _ _ _ f => f))) hat hc hB hS n
    rw [← hm] at hcr
    refine hcr.mono fun e w' ⟨he, a1, a2⟩ => ?_
    have hp' : w'.heap[bp]? = some (.cells #[x0] 3 (0, 0)) := a2.obj (w := w.drew) hp h3
    rw [hR]
    refine ⟨he, (blk_cell hp' 0).trans rfl, blk_free hp' 0, ?_, ?_, ?_⟩
    · rw [heap_setCell_ne _ _ (fun e => h3 e.symm)]
      exact a1
    · rw [heap_setCell_row hp']; simp
    · exact Mod.setCell ((Mod.refl _ w).drew.trans (a2.mono (fun i hi => .inl hi))) (.inr (.inr rfl)) _
  have c0 := blk_cell hx.c 0
  have c1 := blk_cell hx.t 0
  simp at c0 c1
  suffices hs : Calls Tryz.prog 83 #[.pointer (some ⟨bc, 0, none⟩), .pointer (some ⟨bt, 0, none⟩), .pointer (some ⟨bp, 0, none⟩)] w fun e w' => e = .returned (.tuple #[]) ∧ R w' by
    rw [hR] at hs; exact hs
  have HD := Lib.hid hd
  clear hb hrow hat hc hB hS hx hp h3 hd hR hm
  go_enter Tryz.func83, Tryz.ntmps83
  go_wp2_with fail
  go_region_law (first | (go_simp; go_at_call 81; refine (HD.out _ rfl).mono ?_; rintro e w1 ⟨rfl, d1, f1, hr⟩; have HW := Lib.hid hr; clear hr))
  all_goals
    go_wp2
    first | go_end0 | (simp only [Exit.inBlock, Exit.then]; refine bodyPost_ret (results_none rfl _ _ _) rfl ?_) | refine bodyPost_ret (results_none rfl _ _ _) rfl ?_
    exact ⟨rfl, HW.out⟩
end

section
attribute [local go_sem] stPair gtPair gtK8 gtM6
attribute [local go_sem high] neqPair eqK8 eqM6
open Go.RowKit
set_option linter.unusedVariables false
def nums4 (l : List Nat) : List UInt8 := l.flatMap (be 4)
set_option maxRecDepth 100000 in
theorem list_u32_wr {w : World} {C base : Nat} {L : List UInt8} {v : Value} (h : Wr w C base L v) (hb : base ≤ w.heap.size) (hL : L.length ≤ 80000000) {T o k p : Nat} {P : Option Addr} (l : List Nat) (hk : k ≤ l.length) (hk8 : k ≤ 1000)
    (hrow : RowAt (fun b => b ≠ C ∧ v.ownBlock ≠ some b ∧ b < w.heap.size) w P (numCells l)) (hT : w.cell? ⟨T, o, none⟩ = some (.slice P l.length p)) (h1 : T ≠ C) (h2 : v.ownBlock ≠ some T) (fn : Nat) (cp : Value)
    (hen : ∀ (a : Array Value) (W : World), (callFunc fn a).run Tryz.prog W = .ok (.enter fn a) W)
    (he : ∀ (W : World) (L' : List UInt8) (v' : Value) (X z : Nat), Wr W C base L' v' → WMod C v w v' W → L'.length ≤ 89000000 → W.heap[X]? = some (.cells #[.int .u32 (z : Int)] 24 (0, 0)) → w.heap.size ≤ X → v'.ownBlock ≠ some X → z ∈ l →
      Calls Tryz.prog fn #[.pointer (some ⟨X, 0, none⟩), cp] W fun e W' => e = .returned (.tuple #[]) ∧ ∃ v'', Wr W' C base (L' ++ be 4 z) v'' ∧ WMod C v' W v'' W') :
    Calls Tryz.prog 85 #[.pointer (some ⟨C, 0, none⟩), .int .i64 k, .pointer (some ⟨T, o, none⟩), .func (.func fn) #[] #[cp]] w fun e w' => e = .returned (.tuple #[]) ∧ ∃ v', Wr w' C base (L ++ nums4 (l.take k)) v' ∧ WMod C v w v' w' := by
  have c1 := blk_cell h.blk 1
  simp at c1
  have hfl : ∀ j, (nums4 (l.take j)).length ≤ 4 * j := by
    intro j
    have : ∀ m : List Nat, (nums4 m).length = 4 * m.length := by
      intro m
      induction m with
      | nil => rfl
      | cons x m ih => simp only [nums4, List.flatMap_cons, List.length_append, be_length, List.length_cons] at ih ⊢; omega
    rw [this, List.length_take]
    omega
  obtain ⟨n, hn⟩ : ∃ n, n = l.length := ⟨_, rfl⟩
  rw [← hn] at hT
  have H0 := Lib.hid (And.intro h (And.intro hrow (And.intro hT (And.intro hL hfl))))
  have HE := Lib.hid he
  have HN := Lib.hid hn
  have hkn : k ≤ n := by omega
  clear h hrow hT he hb hL hfl hn hk
  go_enter Tryz.func85, Tryz.ntmps85
  go_wp2
  go_loopw [41] (fun i wr => ∃ (j : Nat) (v' : Value), i = .int .i64 j ∧ j ≤ k ∧ Wr wr C base (L ++ nums4 (l.take j)) v' ∧ WMod C v w v' wr) (fun i _ => k - (intOf i).toNat)
  case atStart => exact ⟨0, v, rfl, by omega, by simpa [nums4] using H0.out.1, .refl _ _ _⟩
  case round =>
    obtain ⟨j, v', rfl, hj, hw, hm⟩ := hrel
    have HR := Lib.hid (And.intro hw hm)
    by_cases hlt : j < k
    · obtain ⟨z, hz⟩ : ∃ z, l[j]? = some z := ⟨_, List.getElem?_eq_getElem (by have := HN.out; omega)⟩
      have hT' : wr.cell? ⟨T, o, none⟩ = some (.slice P n p) := hm.mod.cell H0.out.2.2.1 (by rintro (f | f); exact h1 f; exact h2 f)
      obtain ⟨b, o', rfl, _, hblt, hx0⟩ := nums_at (H0.out.2.1.keeps (hm.mod.keeps (fun b hb hs f => by rcases f with f | f; exact hs.1 f; exact hs.2.1 f))) hz
      have HZ := Lib.hid hz
      have p1 : (0:Int) ≤ j := by omega
      have p2 : (j:Int) < n := by omega
      have p3 : (j:Int) < k := by omega
      have hmA : Mod No wr (wr.alloc (.cells #[.int .u32 (z : Int)] 24)) := (Mod.refl _ _).alloc _
      have hc := HE.out (wr.alloc (.cells #[.int .u32 (z : Int)] 24)) _ v' wr.heap.size z (hw.ext hmA) (hm.trans ⟨(hmA.mono (fun _ f => f.elim)), fun g hg => .inl hg⟩) (by have := H0.out.2.2.2.1; have := H0.out.2.2.2.2 j; rw [List.length_append]; omega) (at10 wr _) hm.mod.size (fun e => Nat.lt_irrefl _ (hw.lt e).2) (List.mem_of_getElem? hz)
      have HC := Lib.hid hc
      clear hw hm hz hmA hc
      go_wp2_with fail
      refine HC.out.mono ?_
      rintro e w5 ⟨rfl, v5, hw5, hm5⟩
      have H5 := Lib.hid (And.intro hw5 hm5)
      clear hw5 hm5
      go_wp2
      refine ⟨⟨j + 1, v5, by go_num, by omega, ?_, HR.out.2.trans (WMod.ext ((Mod.refl _ _).alloc _) H5.out.2)⟩, by simp [intOf]; omega⟩
      obtain ⟨hlx, ex⟩ := List.getElem?_eq_some_iff.1 HZ.out
      rw [List.take_succ_eq_append_getElem hlx, ex, nums4, List.flatMap_append, ← List.append_assoc]
      simpa [nums4] using H5.out.1
    · have hk' : j = k := by omega
      subst hk'
      clear hw hm
      go_wp2
      first | go_end0 | (simp only [Exit.inBlock, Exit.then]; refine bodyPost_ret (results_none rfl _ _ _) rfl ?_) | refine bodyPost_ret (results_none rfl _ _ _) rfl ?_
      exact ⟨rfl, v', HR.out.1, HR.out.2⟩
def prs8 (l : List Pr) : List UInt8 := l.flatMap fun p => be 4 p.a ++ be 4 p.b
set_option maxRecDepth 100000 in
theorem list_pr_wr {w : World} {C base : Nat} {L : List UInt8} {v : Value} (h : Wr w C base L v) (hb : base ≤ w.heap.size) (hL : L.length ≤ 80000000) {T o k p : Nat} {P : Option Addr} (l : List Pr) (hk : k ≤ l.length) (hk8 : k ≤ 1000)
    (hrow : RowAt (fun b => b ≠ C ∧ v.ownBlock ≠ some b ∧ b < w.heap.size) w P (prCells l)) (hT : w.cell? ⟨T, o, none⟩ = some (.slice P l.length p)) (h1 : T ≠ C) (h2 : v.ownBlock ≠ some T) (fn : Nat) (cp : Value)
    (hen : ∀ (a : Array Value) (W : World), (callFunc fn a).run Tryz.prog W = .ok (.enter fn a) W)
    (he : ∀ (W : World) (L' : List UInt8) (v' : Value) (X : Nat) (z : Pr), Wr W C base L' v' → WMod C v w v' W → L'.length ≤ 89000000 → W.heap[X]? = some (.cells #[.int .u32 (z.a : Int), .int .u32 (z.b : Int)] 119 (0, 0)) → w.heap.size ≤ X → v'.ownBlock ≠ some X → z ∈ l →
      Calls Tryz.prog fn #[.pointer (some ⟨X, 0, none⟩), cp] W fun e W' => e = .returned (.tuple #[]) ∧ ∃ v'', Wr W' C base (L' ++ (be 4 z.a ++ be 4 z.b)) v'' ∧ WMod C v' W v'' W') :
    Calls Tryz.prog 88 #[.pointer (some ⟨C, 0, none⟩), .int .i64 k, .pointer (some ⟨T, o, none⟩), .func (.func fn) #[] #[cp]] w fun e w' => e = .returned (.tuple #[]) ∧ ∃ v', Wr w' C base (L ++ prs8 (l.take k)) v' ∧ WMod C v w v' w' := by
  have c1 := blk_cell h.blk 1
  simp at c1
  have hfl : ∀ j, (prs8 (l.take j)).length ≤ 8 * j := by
    intro j
    have : ∀ m : List Pr, (prs8 m).length = 8 * m.length := by
      intro m
      induction m with
      | nil => rfl
      | cons x m ih => simp only [prs8, List.flatMap_cons, List.length_append, be_length, List.length_cons] at ih ⊢; omega
    rw [this, List.length_take]
    omega
  obtain ⟨n, hn⟩ : ∃ n, n = l.length := ⟨_, rfl⟩
  rw [← hn] at hT
  have H0 := Lib.hid (And.intro h (And.intro hrow (And.intro hT (And.intro hL hfl))))
  have HE := Lib.hid he
  have HN := Lib.hid hn
  have hkn : k ≤ n := by omega
  clear h hrow hT he hb hL hfl hn hk
  go_enter Tryz.func88, Tryz.ntmps88
  go_wp2
  go_loopw [41] (fun i wr => ∃ (j : Nat) (v' : Value), i = .int .i64 j ∧ j ≤ k ∧ Wr wr C base (L ++ prs8 (l.take j)) v' ∧ WMod C v w v' wr) (fun i _ => k - (intOf i).toNat)
  case atStart => exact ⟨0, v, rfl, by omega, by simpa [prs8] using H0.out.1, .refl _ _ _⟩
  case round =>
    obtain ⟨j, v', rfl, hj, hw, hm⟩ := hrel
    have HR := Lib.hid (And.intro hw hm)
    by_cases hlt : j < k
    · obtain ⟨z, hz⟩ : ∃ z, l[j]? = some z := ⟨_, List.getElem?_eq_getElem (by have := HN.out; omega)⟩
      have hT' : wr.cell? ⟨T, o, none⟩ = some (.slice P n p) := hm.mod.cell H0.out.2.2.1 (by rintro (f | f); exact h1 f; exact h2 f)
      obtain ⟨b, o', rfl, _, hblt, hx0, hx1⟩ := prs_at (H0.out.2.1.keeps (hm.mod.keeps (fun b hb hs f => by rcases f with f | f; exact hs.1 f; exact hs.2.1 f))) hz
      have HZ := Lib.hid hz
      have p1 : (0:Int) ≤ j := by omega
      have p2 : (j:Int) < n := by omega
      have p3 : (j:Int) < k := by omega
      have hmA : Mod No wr (wr.alloc (.cells #[.int .u32 (z.a : Int), .int .u32 (z.b : Int)] 119)) := (Mod.refl _ _).alloc _
      have hc := HE.out (wr.alloc (.cells #[.int .u32 (z.a : Int), .int .u32 (z.b : Int)] 119)) _ v' wr.heap.size z (hw.ext hmA) (hm.trans ⟨(hmA.mono (fun _ f => f.elim)), fun g hg => .inl hg⟩) (by have := H0.out.2.2.2.1; have := H0.out.2.2.2.2 j; rw [List.length_append]; omega) (at10 wr _) hm.mod.size (fun e => Nat.lt_irrefl _ (hw.lt e).2) (List.mem_of_getElem? hz)
      have HC := Lib.hid hc
      clear hw hm hz hmA hc
      go_wp2_with fail
      refine HC.out.mono ?_
      rintro e w5 ⟨rfl, v5, hw5, hm5⟩
      have H5 := Lib.hid (And.intro hw5 hm5)
      clear hw5 hm5
      go_wp2
      refine ⟨⟨j + 1, v5, by go_num, by omega, ?_, HR.out.2.trans (WMod.ext ((Mod.refl _ _).alloc _) H5.out.2)⟩, by simp [intOf]; omega⟩
      obtain ⟨hlx, ex⟩ := List.getElem?_eq_some_iff.1 HZ.out
      rw [List.take_succ_eq_append_getElem hlx, ex, prs8, List.flatMap_append, ← List.append_assoc]
      simpa [prs8] using H5.out.1
    · have hk' : j = k := by omega
      subst hk'
      clear hw hm
      go_wp2
      first | go_end0 | (simp only [Exit.inBlock, Exit.then]; refine bodyPost_ret (results_none rfl _ _ _) rfl ?_) | refine bodyPost_ret (results_none rfl _ _ _) rfl ?_
      exact ⟨rfl, v', HR.out.1, HR.out.2⟩
end

section
attribute [local go_sem] stPair gtPair gtK8 gtM6
attribute [local go_sem high] neqPair eqK8 eqM6
open Go.RowKit
set_option linter.unusedVariables false
set_option maxRecDepth 100000 in
theorem each_u32_wr {W : World} {C base : Nat} {L : List UInt8} {v : Value} (h : Wr W C base L v) (hb : base ≤ W.heap.size) (hL : L.length ≤ 90000000) {bc X z : Nat} (hc : W.heap[bc]? = some (.cells #[.pointer (some ⟨C, 0, none⟩)] 100 (0, 0)))
    (hX : W.heap[X]? = some (.cells #[.int .u32 (z : Int)] 24 (0, 0))) (hz : z < 4294967296) (hXC : X ≠ C) :
    Calls Tryz.prog 86 #[.pointer (some ⟨X, 0, none⟩), .pointer (some ⟨bc, 0, none⟩)] W fun e W' => e = .returned (.tuple #[]) ∧ ∃ v', Wr W' C base (L ++ be 4 z) v' ∧ WMod C v W v' W' := by
  have HD := Lib.hid (num_u32_wr h hb 4 z (by decide) hL (T := X) (o := 0) (z := z) (by simpa using blk_cell hX 0) (wrap_u64 z (by omega)) hXC (h.ne hX (by decide)))
  have c0 := blk_cell hc 0
  simp at c0
  clear h hb hL hc hX hXC
  go_enter Tryz.func86, Tryz.ntmps86
  go_wp2_with (first | (go_at_call 63; refine HD.out.mono ?_; rintro e w1 ⟨rfl, v', hw1, hm1⟩; have HW := Lib.hid (And.intro hw1 hm1); clear hw1 hm1) | fail)
  go_end0
  exact ⟨rfl, v', HW.out.1, HW.out.2⟩
set_option maxRecDepth 100000 in
theorem each_pr_wr {W : World} {C base : Nat} {L : List UInt8} {v : Value} (h : Wr W C base L v) (hb : base ≤ W.heap.size) (hL : L.length ≤ 89000000) {bc X : Nat} {z : Pr} (hc : W.heap[bc]? = some (.cells #[.pointer (some ⟨C, 0, none⟩)] 100 (0, 0)))
    (hX : W.heap[X]? = some (.cells #[.int .u32 (z.a : Int), .int .u32 (z.b : Int)] 119 (0, 0))) (hza : z.a < 4294967296) (hzb : z.b < 4294967296) (hXC : X ≠ C) (hbC : bc ≠ C) :
    Calls Tryz.prog 62 #[.pointer (some ⟨X, 0, none⟩), .pointer (some ⟨bc, 0, none⟩)] W fun e W' => e = .returned (.tuple #[]) ∧ ∃ v', Wr W' C base (L ++ (be 4 z.a ++ be 4 z.b)) v' ∧ WMod C v W v' W' := by
  have hd1 : ∀ W1, W1 = W.drew → Calls Tryz.prog 63 #[.pointer (some ⟨C, 0, none⟩), .int .i64 4, .pointer (some ⟨X, 0, none⟩)] W1 fun e w' => e = .returned (.tuple #[]) ∧ w'.cell? ⟨bc, 0, none⟩ = some (.pointer (some ⟨C, 0, none⟩)) ∧
      ∀ W2, W2 = w'.drew → Calls Tryz.prog 63 #[.pointer (some ⟨C, 0, none⟩), .int .i64 4, .pointer (some ⟨X, 1, none⟩)] W2 fun e w'' => e = .returned (.tuple #[]) ∧ ∃ v', Wr w'' C base (L ++ (be 4 z.a ++ be 4 z.b)) v' ∧ WMod C v W v' w'' := by
    intro W1 hW1
    subst hW1
    refine (num_u32_wr (w := W.drew) ⟨h.blk, h.own⟩ hb 4 z.a (by decide) (by omega) (T := X) (o := 0) (z := z.a) ((blk_cell hX 0).trans rfl) (wrap_u64 _ (by omega)) hXC (h.ne hX (by decide))).mono fun e w' ⟨he, v1, a1, a2⟩ => ?_
    have hX' := a2.obj (w := W.drew) hX hXC (h.ne hX (by decide))
    have hc' := a2.obj (w := W.drew) hc hbC (h.ne hc (by decide))
    refine ⟨he, (blk_cell hc' 0).trans rfl, fun W2 hW2 => ?_⟩
    subst hW2
    refine (num_u32_wr (w := w'.drew) ⟨a1.blk, a1.own⟩ (Nat.le_trans hb a2.mod.size) 4 z.b (by decide) (by rw [List.length_append, be_length]; omega) (T := X) (o := 1) (z := z.b) ((blk_cell hX' 1).trans rfl) (wrap_u64 _ (by omega)) hXC (a1.ne hX' (by decide))).mono fun e w'' ⟨he, v2, b1, b2⟩ => ⟨he, v2, by rw [← List.append_assoc]; exact b1, ?_⟩
    have s1 : WMod C v W v1 w' := ⟨(Mod.refl _ W).drew.trans a2.mod, a2.row⟩
    have s2 : WMod C v1 w' v2 w'' := ⟨(Mod.refl _ w').drew.trans b2.mod, b2.row⟩
    exact s1.trans s2
  have c0 := blk_cell hc 0
  simp at c0
  have HD := Lib.hid hd1
  clear h hb hL hc hX hXC hbC hd1
  go_enter Tryz.func62, Tryz.ntmps62
  go_wp2_with fail
  go_region_law (first | (go_simp; go_at_call 63; refine (HD.out _ rfl).mono ?_; rintro e w1 ⟨rfl, d0, hr⟩; have H2 := Lib.hid hr; clear hr))
  all_goals
    go_wp2_with fail
    go_region_law (first | (go_simp; go_at_call 63; refine (H2.out _ rfl).mono ?_; rintro e w2 ⟨rfl, hr⟩; have HW := Lib.hid hr; clear hr))
  all_goals
    go_wp2
    first | go_end0 | (simp only [Exit.inBlock, Exit.then]; refine bodyPost_ret (results_none rfl _ _ _) rfl ?_) | refine bodyPost_ret (results_none rfl _ _ _) rfl ?_
    exact ⟨rfl, HW.out⟩
set_option maxRecDepth 100000 in
theorem ten_lpool_wr {w : World} {C base : Nat} {L : List UInt8} {v : Value} {bc bt bp T o k p : Nat} {P : Option Addr} (h : Wr w C base L v) (hb : base ≤ w.heap.size) (hL : L.length ≤ 80000000) (hx : Boxes w bc bt C T o) (hbC : bc ≠ C)
    (l : List Nat) (hl : ∀ x ∈ l, x < 4294967296) (hk : k ≤ l.length) (hk8 : k ≤ 1000) (hp : w.heap[bp]? = some (.cells #[.int .i64 (k : Int)] 3 (0, 0)))
    (hrow : RowAt (fun b => b ≠ C ∧ v.ownBlock ≠ some b ∧ b < w.heap.size) w P (numCells l)) (hT : w.cell? ⟨T, o + 23, none⟩ = some (.slice P l.length p)) (h1 : T ≠ C) (h2 : v.ownBlock ≠ some T) :
    Calls Tryz.prog 84 #[.pointer (some ⟨bc, 0, none⟩), .pointer (some ⟨bp, 0, none⟩), .pointer (some ⟨bt, 0, none⟩)] w fun e w' => e = .returned (.tuple #[]) ∧ ∃ v', Wr w' C base (L ++ nums4 (l.take k)) v' ∧ WMod C v w v' w' := by
  have hd : ∀ W, W = w.drew → Calls Tryz.prog 85 #[.pointer (some ⟨C, 0, none⟩), .int .i64 k, .pointer (some ⟨T, o + 23, none⟩), .func (.func 86) #[] #[.pointer (some ⟨bc, 0, none⟩)]] W fun e w' => e = .returned (.tuple #[]) ∧ ∃ v', Wr w' C base (L ++ nums4 (l.take k)) v' ∧ WMod C v w v' w' := by
    intro W hW
    subst hW
    have hlw := list_u32_wr (w := w.drew) (v := v) ⟨h.blk, h.own⟩ hb hL (T := T) (o := o + 23) l hk hk8 (hrow.keeps (Mod.keeps (Mod.drew (Mod.refl No w)) (fun _ _ _ f => f))) hT h1 h2 86 (.pointer (some ⟨bc, 0, none⟩)) (fun a W => by go_simp)
      (fun W L' v' X z hW hm hL' hX hXs hXo hz => each_u32_wr hW (Nat.le_trans hb hm.mod.size) (by omega) (hm.obj (w := w.drew) hx.c hbC (h.ne hx.c (by decide))) hX (hl z hz) (fun e => by have hXs' : w.heap.size ≤ X := hXs; have := lt_of_block h.blk; omega))
    exact hlw.mono fun e w' ⟨he, v', a1, a2⟩ => ⟨he, v', a1, ⟨(Mod.refl _ w).drew.trans a2.mod, a2.row⟩⟩
  have c0 := blk_cell hx.c 0
  have c1 := blk_cell hx.t 0
  have c2 := blk_cell hp 0
  simp at c0 c1 c2
  have HD := Lib.hid hd
  clear h hb hL hx hbC hl hk hk8 hp hrow hT h1 h2 hd
  go_enter Tryz.func84, Tryz.ntmps84
  go_wp2_with fail
  go_region_law (first | (go_simp; go_at_call 85; refine (HD.out _ rfl).mono ?_; rintro e w1 ⟨rfl, v', hw1, hm1⟩; have HW := Lib.hid (And.intro hw1 hm1); clear hw1 hm1))
  all_goals
    go_wp2
    first | go_end0 | (simp only [Exit.inBlock, Exit.then]; refine bodyPost_ret (results_none rfl _ _ _) rfl ?_) | refine bodyPost_ret (results_none rfl _ _ _) rfl ?_
    exact ⟨rfl, v', HW.out.1, HW.out.2⟩
set_option maxRecDepth 100000 in
theorem ten_lstatics_wr {w : World} {C base : Nat} {L : List UInt8} {v : Value} {bc bt bp bq T o k p : Nat} {P : Option Addr} (h : Wr w C base L v) (hb : base ≤ w.heap.size) (hL : L.length ≤ 80000000) (hx : Boxes w bc bt C T o) (hbC : bc ≠ C)
    (l : List Pr) (hl : ∀ x ∈ l, x.a < 4294967296 ∧ x.b < 4294967296) (hk : k ≤ l.length) (hk8 : k ≤ 1000) (hp : w.heap[bp]? = some (.cells #[.int .i64 (k : Int)] 3 (0, 0))) (hq : w.heap[bq]? = some (.cells #[.func (.func 62) #[] #[.pointer (some ⟨bc, 0, none⟩)]] 120 (0, 0)))
    (hrow : RowAt (fun b => b ≠ C ∧ v.ownBlock ≠ some b ∧ b < w.heap.size) w P (prCells l)) (hT : w.cell? ⟨T, o + 27, none⟩ = some (.slice P l.length p)) (h1 : T ≠ C) (h2 : v.ownBlock ≠ some T) :
    Calls Tryz.prog 87 #[.pointer (some ⟨bc, 0, none⟩), .pointer (some ⟨bp, 0, none⟩), .pointer (some ⟨bt, 0, none⟩), .pointer (some ⟨bq, 0, none⟩)] w fun e w' => e = .returned (.tuple #[]) ∧ ∃ v', Wr w' C base (L ++ prs8 (l.take k)) v' ∧ WMod C v w v' w' := by
  have hd : ∀ W, W = w.drew → Calls Tryz.prog 88 #[.pointer (some ⟨C, 0, none⟩), .int .i64 k, .pointer (some ⟨T, o + 27, none⟩), .func (.func 62) #[] #[.pointer (some ⟨bc, 0, none⟩)]] W fun e w' => e = .returned (.tuple #[]) ∧ ∃ v', Wr w' C base (L ++ prs8 (l.take k)) v' ∧ WMod C v w v' w' := by
    intro W hW
    subst hW
    have hlw := list_pr_wr (w := w.drew) (v := v) ⟨h.blk, h.own⟩ hb hL (T := T) (o := o + 27) l hk hk8 (hrow.keeps (Mod.keeps (Mod.drew (Mod.refl No w)) (fun _ _ _ f => f))) hT h1 h2 62 (.pointer (some ⟨bc, 0, none⟩)) (fun a W => by go_simp)
      (fun W L' v' X z hW hm hL' hX hXs hXo hz => each_pr_wr hW (Nat.le_trans hb hm.mod.size) hL' (hm.obj (w := w.drew) hx.c hbC (h.ne hx.c (by decide))) hX (hl z hz).1 (hl z hz).2 (fun e => by have hXs' : w.heap.size ≤ X := hXs; have := lt_of_block h.blk; omega) hbC)
    exact hlw.mono fun e w' ⟨he, v', a1, a2⟩ => ⟨he, v', a1, ⟨(Mod.refl _ w).drew.trans a2.mod, a2.row⟩⟩
  have c0 := blk_cell hx.c 0
  have c1 := blk_cell hx.t 0
  have c2 := blk_cell hp 0
  have c3 := blk_cell hq 0
  simp at c0 c1 c2 c3
  have HD := Lib.hid hd
  clear h hb hL hx hbC hl hk hk8 hp hq hrow hT h1 h2 hd
  go_enter Tryz.func87, Tryz.ntmps87
  go_wp2_with fail
  go_region_law (first | (go_simp; go_at_call 88; refine (HD.out _ rfl).mono ?_; rintro e w1 ⟨rfl, v', hw1, hm1⟩; have HW := Lib.hid (And.intro hw1 hm1); clear hw1 hm1))
  all_goals
    go_wp2
    first | go_end0 | (simp only [Exit.inBlock, Exit.then]; refine bodyPost_ret (results_none rfl _ _ _) rfl ?_) | refine bodyPost_ret (results_none rfl _ _ _) rfl ?_
    exact ⟨rfl, v', HW.out.1, HW.out.2⟩
set_option maxRecDepth 100000 in
theorem ten_ltwices_wr {w : World} {C base : Nat} {L : List UInt8} {v : Value} {bc bt bp bq T o k p : Nat} {P : Option Addr} (h : Wr w C base L v) (hb : base ≤ w.heap.size) (hL : L.length ≤ 80000000) (hx : Boxes w bc bt C T o) (hbC : bc ≠ C)
    (l : List Pr) (hl : ∀ x ∈ l, x.a < 4294967296 ∧ x.b < 4294967296) (hk : k ≤ l.length) (hk8 : k ≤ 1000) (hp : w.heap[bp]? = some (.cells #[.int .i64 (k : Int)] 3 (0, 0))) (hq : w.heap[bq]? = some (.cells #[.func (.func 62) #[] #[.pointer (some ⟨bc, 0, none⟩)]] 120 (0, 0)))
    (hrow : RowAt (fun b => b ≠ C ∧ v.ownBlock ≠ some b ∧ b < w.heap.size) w P (prCells l)) (hT : w.cell? ⟨T, o + 28, none⟩ = some (.slice P l.length p)) (h1 : T ≠ C) (h2 : v.ownBlock ≠ some T) :
    Calls Tryz.prog 89 #[.pointer (some ⟨bc, 0, none⟩), .pointer (some ⟨bp, 0, none⟩), .pointer (some ⟨bt, 0, none⟩), .pointer (some ⟨bq, 0, none⟩)] w fun e w' => e = .returned (.tuple #[]) ∧ ∃ v', Wr w' C base (L ++ prs8 (l.take k)) v' ∧ WMod C v w v' w' := by
  have hd : ∀ W, W = w.drew → Calls Tryz.prog 88 #[.pointer (some ⟨C, 0, none⟩), .int .i64 k, .pointer (some ⟨T, o + 28, none⟩), .func (.func 62) #[] #[.pointer (some ⟨bc, 0, none⟩)]] W fun e w' => e = .returned (.tuple #[]) ∧ ∃ v', Wr w' C base (L ++ prs8 (l.take k)) v' ∧ WMod C v w v' w' := by
    intro W hW
    subst hW
    have hlw := list_pr_wr (w := w.drew) (v := v) ⟨h.blk, h.own⟩ hb hL (T := T) (o := o + 28) l hk hk8 (hrow.keeps (Mod.keeps (Mod.drew (Mod.refl No w)) (fun _ _ _ f => f))) hT h1 h2 62 (.pointer (some ⟨bc, 0, none⟩)) (fun a W => by go_simp)
      (fun W L' v' X z hW hm hL' hX hXs hXo hz => each_pr_wr hW (Nat.le_trans hb hm.mod.size) hL' (hm.obj (w := w.drew) hx.c hbC (h.ne hx.c (by decide))) hX (hl z hz).1 (hl z hz).2 (fun e => by have hXs' : w.heap.size ≤ X := hXs; have := lt_of_block h.blk; omega) hbC)
    exact hlw.mono fun e w' ⟨he, v', a1, a2⟩ => ⟨he, v', a1, ⟨(Mod.refl _ w).drew.trans a2.mod, a2.row⟩⟩
  have c0 := blk_cell hx.c 0
  have c1 := blk_cell hx.t 0
  have c2 := blk_cell hp 0
  have c3 := blk_cell hq 0
  simp at c0 c1 c2 c3
  have HD := Lib.hid hd
  clear h hb hL hx hbC hl hk hk8 hp hq hrow hT h1 h2 hd
  go_enter Tryz.func89, Tryz.ntmps89
  go_wp2_with fail
  go_region_law (first | (go_simp; go_at_call 88; refine (HD.out _ rfl).mono ?_; rintro e w1 ⟨rfl, v', hw1, hm1⟩; have HW := Lib.hid (And.intro hw1 hm1); clear hw1 hm1))
  all_goals
    go_wp2
    first | go_end0 | (simp only [Exit.inBlock, Exit.then]; refine bodyPost_ret (results_none rfl _ _ _) rfl ?_) | refine bodyPost_ret (results_none rfl _ _ _) rfl ?_
    exact ⟨rfl, v', HW.out.1, HW.out.2⟩
end

section
attribute [local go_sem] stPair gtPair gtK8 gtM6
attribute [local go_sem high] neqPair eqK8 eqM6
open Go.RowKit
set_option linter.unusedVariables false
def light (t : Ten) : Bool := decide (t.name.length ≤ 300) && decide (t.pool.length ≤ 300) && decide (t.statics.length ≤ 300) && decide (t.twices.length ≤ 300)
set_option maxRecDepth 100000 in
theorem light_ok {S : Nat → Prop} {w : World} (a : Ten) (va : Value) (ha : TenV S w a va) :
    Calls Tryz.prog 6 #[va] w fun e w' => e = .returned (.bool (light a)) ∧ Mod No w w' := by
  obtain ⟨P, p, Q, q, R, r, rfl, h1, h2, h3⟩ := ha.val
  obtain ⟨CA, hCA⟩ : ∃ CA, CA = a.cells (.slice P a.pool.length p) (.slice Q a.statics.length q) (.slice R a.twices.length r) := ⟨_, rfl⟩
  have bA := box_ten CA (by rw [hCA]; rfl)
  rw [← hCA]
  have c0 : CA[0]? = some (Value.string (str a.name)) := by rw [hCA]; rfl
  have c1 : CA[23]? = some (Value.slice P a.pool.length p) := by rw [hCA]; rfl
  have c2 : CA[27]? = some (Value.slice Q a.statics.length q) := by rw [hCA]; rfl
  have c3 : CA[28]? = some (Value.slice R a.twices.length r) := by rw [hCA]; rfl
  have hs : (str a.name).size = a.name.length := by simp [str, ByteArray.size]
  have l0 : decide ((a.name.length : Int) ≤ 300) = decide (a.name.length ≤ 300) := by rw [decide_eq_decide]; omega
  have l1 : decide ((a.pool.length : Int) ≤ 300) = decide (a.pool.length ≤ 300) := by rw [decide_eq_decide]; omega
  have l2 : decide ((a.statics.length : Int) ≤ 300) = decide (a.statics.length ≤ 300) := by rw [decide_eq_decide]; omega
  have l3 : decide ((a.twices.length : Int) ≤ 300) = decide (a.twices.length ≤ 300) := by rw [decide_eq_decide]; omega
  have hl : light a = (decide (a.name.length ≤ 300) && decide (a.pool.length ≤ 300) && decide (a.statics.length ≤ 300) && decide (a.twices.length ≤ 300)) := rfl
  rw [hl]
  generalize decide (a.name.length ≤ 300) = b0 at l0 ⊢
  generalize decide (a.pool.length ≤ 300) = b1 at l1 ⊢
  generalize decide (a.statics.length ≤ 300) = b2 at l2 ⊢
  generalize decide (a.twices.length ≤ 300) = b3 at l3 ⊢
  clear ha h1 h2 h3 hCA hl
  cases b0
  · go_enter Tryz.func6, Tryz.ntmps6
    go_wp2
    go_ret
    exact ⟨by simp, (Mod.refl _ _).alloc _⟩
  cases b1
  · go_enter Tryz.func6, Tryz.ntmps6
    go_wp2
    go_ret
    exact ⟨by simp, (Mod.refl _ _).alloc _⟩
  cases b2
  · go_enter Tryz.func6, Tryz.ntmps6
    go_wp2
    go_ret
    exact ⟨by simp, (Mod.refl _ _).alloc _⟩
  cases b3
  all_goals
    go_enter Tryz.func6, Tryz.ntmps6
    go_wp2
    go_ret
    exact ⟨by simp, (Mod.refl _ _).alloc _⟩
set_option maxRecDepth 100000 in
theorem box_chg (CA : Array Value) (h : CA.size = 35) : ∀ W, (Instr.box 33 (.agg CA)).run Tryz.prog W = .ok (.pointer (some ⟨W.heap.size, 0, none⟩)) (W.alloc (.cells CA 33)) := by
  intro W
  go_simp
/-- A name's bytes behind its length. -/
def nameB (l : List UInt8) : List UInt8 := be 1 (min l.length 255) ++ l.take 255
set_option maxRecDepth 100000 in
theorem change_name_ok {w : World} (CA : Array Value) (hsz : CA.size = 35) (l : List UInt8) (hl : l.length ≤ 100000000) (c0 : CA[0]? = some (Value.bool false)) (c1 : CA[1]? = some (Value.string (str l))) :
    Calls Tryz.prog 35 #[.agg CA] w fun e w' => ∃ v, e = .returned v ∧ w'.ownsRow w.heap.size 5 1 v (0 :: nameB l).length (bcells (0 :: nameB l)) ∧ Mod No w w' := by
  have bA := box_chg CA hsz
  obtain ⟨W, hW⟩ : ∃ W, W = ((w.alloc (.cells CA 33)).alloc (.cells #[.int .u8 0] 5)).alloc (.cells #[.slice (some ⟨w.heap.size + 1, 0, none⟩) 1 1, .bool false, .int .i64 0, .bool false] 102) := ⟨_, rfl⟩
  have hmW : Mod No w W := by rw [hW]; exact (((Mod.refl _ _).alloc _).alloc _).alloc _
  have hX : W.heap[w.heap.size]? = some (.cells CA 33 (0, 0)) := by rw [hW]; exact at30 w _ _ _
  have hr : W.heap[w.heap.size + 1]? = some (.cells #[.int .u8 0] 5 (0, 0)) := by rw [hW]; exact at31 w _ _ _
  have hC : W.heap[w.heap.size + 1 + 1]? = some (.cells #[.slice (some ⟨w.heap.size + 1, 0, none⟩) 1 1, .bool false, .int .i64 0, .bool false] 102 (0, 0)) := by rw [hW]; exact at32 w _ _ _
  have hwr : Wr W (w.heap.size + 1 + 1) w.heap.size [0] (.slice (some ⟨w.heap.size + 1, 0, none⟩) 1 1) := ⟨hC, by
    refine ⟨rfl, .inr ⟨w.heap.size + 1, 1, #[.int .u8 0], rfl, Nat.le_succ _, hr, Nat.le_refl _, by decide, rfl, rfl⟩⟩⟩
  have HN := name_wr hwr hmW.size (by simp) l hl (T := w.heap.size) (o := 1) hX c1 (by omega) (by simp [Value.ownBlock])
  rw [hW] at HN
  have HN := Lib.hid HN
  have HM := Lib.hid hmW
  rw [hW] at HM
  clear hmW hX hr hC hwr hW W hsz
  go_enter Tryz.func35, Tryz.ntmps35
  go_wp2_with (first | (go_at_call 52; refine HN.out.mono ?_; rintro e w1 ⟨rfl, v', hw1, _, hm1, _⟩; obtain ⟨x1, y1, z1, rfl⟩ := own_slice hw1.own; have d0 : w1.cell? ⟨w.heap.size + 1 + 1, 0, none⟩ = some (.slice x1 y1 z1) := (blk_cell hw1.blk 0).trans rfl; have HW := Lib.hid (And.intro hw1 hm1); clear hw1 hm1) | fail)
  go_ret
  obtain ⟨hw1, hm1⟩ := HW.out
  refine ⟨_, rfl, ?_, HM.out.trans' hm1 (fun i hi hg => ?_)⟩
  · have := hw1.own
    simp only [List.append_assoc] at this
    exact this
  · rcases hg with h | h | h
    · omega
    · simp [Value.ownBlock] at h; omega
    · omega
end

section
attribute [local go_sem] stPair gtPair gtK8 gtM6
attribute [local go_sem high] neqPair eqK8 eqM6
open Go.RowKit
set_option linter.unusedVariables false
/-- A change's cells. -/
def chgCells (put : Bool) (name : List UInt8) (t : Ten) (vp vs vt : Value) : Array Value := #[.bool put, .string (str name)] ++ t.cells vp vs vt
def zChg : Array Value := chgCells false [] .zero (.slice none 0 0) (.slice none 0 0) (.slice none 0 0)
theorem results_cell_tmp {P : Program} {fn : Func} {p q : Tmp} {ty : TypeId} (h : fn.results = #[.cell p ty, .tmp q]) (tmps : Array Value) (w : World) (g : Nat) (t : TypeId) (cs : Array Value) (fr : Nat × Nat) (d : TypeDesc)
    (hp : tmps.getD p undef = .pointer (some ⟨g, 0, none⟩)) (hg : w.heap[g]? = some (.cells cs t fr))
    (hu : P.underlying ty = some d) (hd : (match d with | .struct _ | .array _ _ => true | _ => false) = true) (hi : (P.info? ty).map (·.size) = some cs.size) :
    (results fn tmps).run P w = .ok (.tuple #[.agg cs, tmps.getD q undef]) w := by
  have hp' : tmps[p]?.getD undef = .pointer (some ⟨g, 0, none⟩) := by simpa using hp
  simp [results, h, hp', asAddr, run_loadVar_row w g t ty cs fr d hg hu hd hi]
theorem chgSize : (Tryz.prog.info? 33).map (·.size) = some 35 := by kernel_rfl
set_option maxRecDepth 100000 in
theorem alloc_chg : ∀ W, (Instr.alloc 33 true (.tuple #[])).run Tryz.prog W = .ok (.pointer (some ⟨W.heap.size, 0, none⟩)) (W.alloc (.cells zChg 33)) := fun W => by kernel_rfl
set_option maxRecDepth 100000 in
theorem build_chg : ∀ W, (Instr.build 33 #[]).run Tryz.prog W = .ok (.agg zChg) W := fun W => by kernel_rfl
set_option maxRecDepth 100000 in
theorem build_run (ρ : Operand → Value) (W : World) {dst : Option Tmp} {ty : TypeId} {pos : String} {after : Array Edge} {g : Option (Nat × Bool)} : (execOp ρ { dst := dst, op := .build 33 #[], type := ty, pos := pos, after := after, guard := g }).run Tryz.prog W = .ok (.value (.agg zChg)) W := by
  show ((do pure (Next.value (← Instr.build 33 (#[].map fun (i, x) => (i, ρ x)))) : Sem Next)).run Tryz.prog W = _
  simp only [Array.map_empty, Sem.run_bind, build_chg, Result.andThen_ok, Sem.run_pure]
set_option maxRecDepth 100000 in
theorem build1_run (b : Bool) (ρ : Operand → Value) (W : World) {x : Operand} (hx : ρ x = .bool b) {dst : Option Tmp} {ty : TypeId} {pos : String} {after : Array Edge} {g : Option (Nat × Bool)} : (execOp ρ { dst := dst, op := .build 33 #[(0, x)], type := ty, pos := pos, after := after, guard := g }).run Tryz.prog W = .ok (.value (.agg (chgCells b [] .zero (.slice none 0 0) (.slice none 0 0) (.slice none 0 0)))) W := by
  have hb : (Instr.build 33 #[(0, .bool b)]).run Tryz.prog W = .ok (.agg (chgCells b [] .zero (.slice none 0 0) (.slice none 0 0) (.slice none 0 0))) W := by cases b <;> kernel_rfl
  show ((do pure (Next.value (← Instr.build 33 (#[(0, x)].map fun (i, x) => (i, ρ x)))) : Sem Next)).run Tryz.prog W = _
  have hm : (#[((0 : Nat), x)].map fun (i, x) => (i, ρ x)) = #[(0, .bool b)] := by simp [hx]
  rw [hm]
  simp only [Sem.run_bind, hb, Result.andThen_ok, Sem.run_pure]
theorem alloc_op (ρ : Operand → Value) (W : World) {dst : Option Tmp} {ty : TypeId} {pos : String} {after : Array Edge} {g : Option (Nat × Bool)} : (execOp ρ { dst := dst, op := .alloc 33, type := ty, pos := pos, after := after, guard := g }).run Tryz.prog W = .ok (.value (.pointer (some ⟨W.heap.size, 0, none⟩))) (W.alloc (.cells zChg 33)) := by
  show ((do pure (Next.value (← Instr.alloc 33 true (.tuple #[]))) : Sem Next)).run Tryz.prog W = _
  simp only [Sem.run_bind, alloc_chg, Result.andThen_ok, Sem.run_pure]
theorem store_chg {W : World} {b : Nat} {old CA : Array Value} (h : W.heap[b]? = some (.cells old 33 (0, 0))) (ho : old.size = 35) (hc : CA.size = 35) (h1 : CA.all (·.oneCell') = true) :
    (Instr.storeAt 33 (.pointer (some ⟨b, 0, none⟩)) (.agg CA)).run Tryz.prog W = .ok () (W.setRow b CA) := by
  simp only [Instr.storeAt, Instr.sureAddr, Sem.run_bind, Sem.run_pure, Result.andThen_ok]
  exact run_storeVar_row W b _ _ old CA h (by rw [chgSize, hc]) (by rw [ho, hc]) h1
theorem load_chg {W : World} {b : Nat} {CA : Array Value} (h : W.heap[b]? = some (.cells CA 33 (0, 0))) (hc : CA.size = 35) :
    (Instr.loadAt 33 (.pointer (some ⟨b, 0, none⟩))).run Tryz.prog W = .ok (.agg CA) W := by
  simp only [Instr.loadAt, Instr.sureAddr, Sem.run_bind, Sem.run_pure, Result.andThen_ok]
  exact run_loadVar_row W b _ _ CA (0, 0) _ h Tryz.underlying33 rfl (by rw [chgSize, hc])
section
variable {P : Program} {ops : Array Oper} {Q : Exit → Act → World → Prop}
theorem step_none {o : Oper} {rest : List Oper} {a : Act} {w w' : World} (hw : Region.wanted o (yielded ops a.tmps) = true) (hr : (execOp a.eval o).run P w = .ok .skip w') (h : wpList P ops Q rest (a.put o.dst undef) w') : wpList P ops Q (o :: rest) a w := by
  refine wpList_step fun K hK => ?_
  rw [if_pos hw]
  unfold Oper.wp
  rw [hr]
  exact hK _ _ h
theorem run_store_op {a : Act} {o : Oper} {t : TypeId} {x y : Operand} {pv v : Value} {W W' : World} (ho : o.op = .store t x y) (hx : a.eval x = pv) (hy : a.eval y = v) (rs : (Instr.storeAt t pv v).run P W = .ok () W') : (execOp a.eval o).run P W = .ok .skip W' := by
  simp only [execOp, ho, hx, hy, Sem.run_bind, rs, Result.andThen_ok, Sem.run_pure]
end
theorem load_op {P : Program} {ρ : Operand → Value} {t : TypeId} {x : Operand} {pv v : Value} {W : World} {dst : Option Tmp} {ty : TypeId} {pos : String} {after : Array Edge} {g : Option (Nat × Bool)} (hx : ρ x = pv) (rs : (Instr.loadAt t pv).run P W = .ok v W) : (execOp ρ { dst := dst, op := .load t x, type := ty, pos := pos, after := after, guard := g }).run P W = .ok (.value v) W := by
  show ((do pure (Next.value (← Instr.loadAt t (ρ x)))) : Sem Next).run P W = _
  rw [hx]
  simp only [Sem.run_bind, rs, Result.andThen_ok, Sem.run_pure]
theorem chg_set (xs : List UInt8) : zChg.setIfInBounds 1 (.string (str xs)) = chgCells false xs .zero (.slice none 0 0) (.slice none 0 0) (.slice none 0 0) := by
  simp [chgCells, zChg, Ten.cells]
theorem chg_size (b : Bool) (xs : List UInt8) (t : Ten) (vp vs vt : Value) : (chgCells b xs t vp vs vt).size = 35 := by simp [chgCells, Ten.cells]
theorem zSize : zChg.size = 35 := rfl
theorem zOne : zChg.all (·.oneCell') = true := by decide +kernel
set_option maxRecDepth 100000 in
theorem openChange_nil {w : World} (A : Option Addr) (c : Nat) :
    Calls Tryz.prog 33 #[.slice A 0 c] w fun e w' => e = .returned (.tuple #[.agg zChg, .int .i64 70]) ∧ Mod No w w' := by
  go_enter Tryz.func33, Tryz.ntmps33
  go_upto_region 2 with fail
  refine wp_region_lit ?_
  refine step_val (v := .agg zChg) (want_none rfl) (build_run _ _) ?_
  refine step_none (want_none rfl) (run_store_op (by rfl) (by rfl) (by rfl) (store_chg (at10 w _) rfl zSize zOne)) ?_
  refine step_val (v := .int .i64 70) (want_none rfl) rfl ?_
  refine wpList_nil ?_
  simp only [Act.put, List.setIfInBounds_toArray, List.set_cons_zero, List.set_cons_succ]
  go_wp2
  refine bodyPost_ret (results_cell_tmp rfl _ _ w.heap.size 33 zChg (0, 0) _ rfl (setRow_heap _ _ _ _ _ _ (at10 w _)) Tryz.underlying33 rfl (by rw [chgSize, zSize])) rfl ?_
  exact ⟨rfl, ((Mod.refl No w).alloc _).trans' (setRow_mod _) (fun i hi hg => by omega)⟩
set_option maxRecDepth 100000 in
theorem openChange_bad {S : Nat → Prop} {w : World} (A : Option Addr) (n c : Nat) (x : UInt8) (r : List UInt8) (hrow : RowAt S w A (bcells (x :: r))) (hn : n = r.length + 1) (hx : 1 < x.toNat) :
    Calls Tryz.prog 33 #[.slice A n c] w fun e w' => e = .returned (.tuple #[.agg zChg, .int .i64 70]) ∧ Mod No w w' := by
  obtain ⟨b, o, rfl, _, hlt, hc⟩ := hrow.open (by simp [bcells])
  have c0 := hc 0 (.int .u8 (x.toNat : Int)) rfl
  rw [Nat.add_zero] at c0
  have p0 : ((n : Int) == 0) = false := by rw [beq_eq_false_iff_ne]; omega
  have p1 : (0 : Int) < n := by omega
  have p2 : decide ((1 : Int) < (x.toNat : Int)) = true := by rw [decide_eq_true_eq]; omega
  clear hrow hc hn hx
  go_enter Tryz.func33, Tryz.ntmps33
  go_upto_region 2 with fail
  refine wp_region_lit ?_
  refine step_val (v := .agg zChg) (want_none rfl) (build_run _ _) ?_
  refine step_none (want_none rfl) (run_store_op (by rfl) (by rfl) (by rfl) (store_chg (at10 w _) rfl zSize zOne)) ?_
  refine step_val (v := .int .i64 70) (want_none rfl) rfl ?_
  refine wpList_nil ?_
  simp only [Act.put, List.setIfInBounds_toArray, List.set_cons_zero, List.set_cons_succ]
  go_wp2
  refine bodyPost_ret (results_cell_tmp rfl _ _ w.heap.size 33 zChg (0, 0) _ rfl (setRow_heap _ _ _ _ _ _ (at10 w _)) Tryz.underlying33 rfl (by rw [chgSize, zSize])) rfl ?_
  exact ⟨rfl, ((Mod.refl No w).alloc _).trans' (setRow_mod _) (fun i hi hg => by omega)⟩
set_option maxRecDepth 100000 in
theorem openChange_name {S : Nat → Prop} {w : World} (A : Option Addr) (n c : Nat) (r : List UInt8) (hrow : RowAt S w A (bcells (0 :: r))) (hn : n = r.length + 1) (hc : n ≤ c) (hn8 : n ≤ 100000000) :
    Calls Tryz.prog 33 #[.slice A n c] w fun e w' => e = .returned (if (rname (0 :: r) (1, false)).2 = (n, false) then .tuple #[.agg (chgCells false (rname (0 :: r) (1, false)).1 .zero (.slice none 0 0) (.slice none 0 0) (.slice none 0 0)), .int .i64 0] else .tuple #[.agg zChg, .int .i64 70]) ∧ Mod No w w' := by
  obtain ⟨b, o, rfl, _, hlt, hcl⟩ := hrow.open (by simp [bcells])
  have c0 := hcl 0 (.int .u8 0) rfl
  rw [Nat.add_zero] at c0
  have p0 : ((n : Int) == 0) = false := by rw [beq_eq_false_iff_ne]; omega
  have p1 : (0 : Int) < n := by omega
  have HR := Lib.hid hrow
  have HN := Lib.hid hn
  clear hrow hcl hn
  obtain ⟨B, hB⟩ : ∃ B, B = 0 :: r := ⟨_, rfl⟩
  rw [← hB]
  obtain ⟨xs, hxs⟩ : ∃ xs, xs = (rname B (1, false)).1 := ⟨_, rfl⟩
  obtain ⟨st, hst⟩ : ∃ st, st = (rname B (1, false)).2 := ⟨_, rfl⟩
  rw [← hxs, ← hst]
  have HBX := Lib.hid (And.intro hB (And.intro hxs hst))
  obtain ⟨res, hres⟩ : ∃ res, res = (if st = (n, false) then Value.tuple #[.agg (chgCells false xs .zero (.slice none 0 0) (.slice none 0 0) (.slice none 0 0)), .int .i64 0] else Value.tuple #[.agg zChg, .int .i64 70]) := ⟨_, rfl⟩
  rw [← hres]
  have HRES := Lib.hid hres
  clear hres
  clear hB hxs hst
  go_enter Tryz.func33, Tryz.ntmps33
  go_upto_region 4 with fail
  refine wp_region_lit ?_
  obtain ⟨W1, hW1⟩ : ∃ W1 : World, W1 = (w.alloc (.cells zChg 33)).alloc (.cells #[.slice (some ⟨b, o, none⟩) n c, .bool true, .int .i64 1, .bool false] 102) := ⟨_, rfl⟩
  show wpList _ _ _ _ _ ((w.alloc (.cells zChg 33)).alloc (.cells #[.slice (some ⟨b, o, none⟩) n c, .bool true, .int .i64 1, .bool false] 102))
  rw [← hW1]
  have hm1 : Mod No w W1 := by rw [hW1]; exact ((Mod.refl _ _).alloc _).alloc _
  have hs1 : W1.heap.size = w.heap.size + 2 := by rw [hW1]; simp
  have hz1 : W1.heap[w.heap.size]? = some (.cells zChg 33 (0, 0)) := by rw [hW1]; exact at20 w _ _
  have hC1 : W1.heap[w.heap.size + 1]? = some (rdObj (some ⟨b, o, none⟩) n c 1 false) := by rw [hW1]; exact at21 w _ _
  have c1 : W1.cell? ⟨b, o, none⟩ = some (.int .u8 0) := hm1.cell c0 id
  have p2 : ¬ n = 0 := by omega
  clear hW1
  refine step_val (v := .slice (some ⟨b, o, none⟩) n c) (want_none rfl) rfl ?_
  refine step_val (v := .pointer (some ⟨b, o, none⟩)) (w' := W1) (want_none rfl) (by
    show ((do pure (Next.value (← Instr.indexAt 40 (.slice (some ⟨b, o, none⟩) n c) (.int .i64 0)))) : Sem Next).run Tryz.prog W1 = _
    go_simp) ?_
  refine step_val (v := .int .u8 0) (w' := W1) (want_none rfl) (by
    show ((do pure (Next.value (← Instr.loadAt 5 (.pointer (some ⟨b, o, none⟩))))) : Sem Next).run Tryz.prog W1 = _
    go_simp) ?_
  refine step_val (v := .bool false) (w' := W1) (want_none rfl) rfl ?_
  simp only [Act.put, List.setIfInBounds_toArray, List.set_cons_zero, List.set_cons_succ]
  refine step_val (v := .agg zChg) (w' := W1) (want_none rfl) (build1_run false _ _ (by rfl)) ?_
  refine step_val (v := .pointer (some ⟨W1.heap.size, 0, none⟩)) (w' := W1.alloc (.cells zChg 33)) (want_none rfl) (alloc_op _ _) ?_
  simp only [Act.put, List.setIfInBounds_toArray, List.set_cons_zero, List.set_cons_succ]
  refine step_none (w' := (W1.alloc (.cells zChg 33)).setRow W1.heap.size zChg) (want_none rfl) (run_store_op (by rfl) (by rfl) (by rfl) (store_chg (at10 W1 _) rfl zSize zOne)) ?_
  refine wpList_nil ?_
  simp only [Act.put]
  obtain ⟨x5, hx5⟩ : ∃ x5, x5 = W1.heap.size := ⟨_, rfl⟩
  obtain ⟨W3, hW3⟩ : ∃ W3 : World, W3 = (W1.alloc (.cells zChg 33)).setRow x5 zChg := ⟨_, rfl⟩
  rw [← hx5, ← hW3]
  have hm3 : Mod No W1 W3 := by rw [hW3]; exact ((Mod.refl No W1).alloc _).trans' (setRow_mod _) (fun i hi hg => by omega)
  have hz3 : W3.heap[x5]? = some (.cells zChg 33 (0, 0)) := by rw [hW3, hx5]; exact setRow_heap _ _ _ _ _ _ (at10 W1 _)
  have d0 : W3.cell? ⟨x5, 0, none⟩ = some (.bool false) := (blk_cell hz3 0).trans rfl
  obtain ⟨hB, hxs, hst⟩ := HBX.out
  have hBn : B.length = n := by rw [hB, List.length_cons, HN.out]
  have hrow3 := (HR.out.mono (S' := fun i => S i ∧ i < w.heap.size) (fun i hi hs => ⟨hs, hi⟩)).keeps ((hm1.trans hm3).keeps (fun _ _ _ f => f))
  rw [← hB] at hrow3
  have hNM := name_rd B (by rw [hBn]; exact hm3.obj hC1 id) hrow3 (by omega) (by omega) (by omega) (fun f => by omega) [] (by simp) (T := x5) (o := 1) hz3 rfl (by omega)
  rw [← hxs, ← hst] at hNM
  have HNM := Lib.hid hNM
  have H3 := Lib.hid (And.intro (hm1.trans hm3) (And.intro (hm3.obj hz1 id) hBn))
  have hx1 : w.heap.size < x5 := by omega
  have hx2 : w.heap.size + 1 < x5 := by omega
  clear hm1 hz1 hC1 c1 hm3 hz3 hB hrow3 hNM hxs hst hW3 hx5 hs1 hBn HR HN c0 p0 p1 HBX p2
  clear W1
  go_upto_region 9 with (first | (go_at_call 52; refine HNM.out.mono ?_; rintro e w4 ⟨rfl, hC4, hX4, hm4⟩; have HE := Lib.hid (ended_ok hC4); have H4 := Lib.hid (And.intro hX4 hm4); clear hC4 hX4 hm4) | fail)
  obtain ⟨eb, heb⟩ : ∃ eb, eb = (!st.2 && decide (st.1 = B.length)) := ⟨_, rfl⟩
  rw [← heb] at HE
  have hif : (st = (n, false)) = (eb = true) := by
    rw [heb, H3.out.2.2]
    obtain ⟨s1, s2⟩ := st
    cases s2 <;> simp
  have hX4 := H4.out.1
  rw [chg_set] at hX4
  have ho1 : (chgCells false xs .zero (.slice none 0 0) (.slice none 0 0) (.slice none 0 0)).all (·.oneCell') = true := by simp [chgCells, Ten.cells, Value.oneCell']
  obtain ⟨CX, hCX⟩ : ∃ CX, CX = chgCells false xs .zero (.slice none 0 0) (.slice none 0 0) (.slice none 0 0) := ⟨_, rfl⟩
  have hCs : CX.size = 35 := by rw [hCX, chg_size]
  rw [← hCX] at hX4 ho1
  have hz4 := H4.out.2.obj H3.out.2.1 (by intro f; rcases f with f | f <;> omega)
  have hmall : Mod No w w4 := H3.out.1.trans' H4.out.2 (fun i hi hg => by rcases hg with h | h <;> omega)
  have HIF := Lib.hid hif
  have HZ := Lib.hid (And.intro hX4 (And.intro hz4 hmall))
  have HCX := Lib.hid (And.intro hCX (And.intro hCs ho1))
  clear hif heb hX4 hz4 hmall hCX hCs ho1
  cases eb
  · go_upto_region 10 with (first | (go_at_call 53; refine HE.out.mono ?_; rintro e w5 ⟨rfl, q5, rfl⟩) | fail)
    refine wp_region_lit ?_
    refine step_val (v := .agg zChg) (want_none rfl) (build_run _ _) ?_
    simp only [Act.put, List.setIfInBounds_toArray, List.set_cons_zero, List.set_cons_succ]
    refine step_none (w' := (w4.drewN q5).setRow w.heap.size zChg) (want_none rfl) (run_store_op (by rfl) (by rfl) (by rfl) (store_chg (old := zChg) (HZ.out.2.1) rfl zSize zOne)) ?_
    refine step_val (v := .int .i64 70) (want_none rfl) rfl ?_
    refine wpList_nil ?_
    simp only [Act.put, List.setIfInBounds_toArray, List.set_cons_zero, List.set_cons_succ]
    go_wp2
    refine bodyPost_ret (results_cell_tmp rfl _ _ w.heap.size 33 zChg (0, 0) _ rfl (setRow_heap _ _ _ _ _ _ HZ.out.2.1) Tryz.underlying33 rfl (by rw [chgSize, zSize])) rfl ?_
    refine ⟨?_, (HZ.out.2.2.drewN q5).trans' (setRow_mod _) (fun i hi hg => by omega)⟩
    rw [HRES.out, if_neg (by rw [HIF.out]; decide)]
    rfl
  · go_upto_region 11 with (first | (go_at_call 53; refine HE.out.mono ?_; rintro e w5 ⟨rfl, q5, rfl⟩) | fail)
    refine wp_region_lit ?_
    refine step_val (v := .agg CX) (w' := w4.drewN q5) (want_none rfl) (load_op (by rfl) (load_chg HZ.out.1 HCX.out.2.1)) ?_
    simp only [Act.put, List.setIfInBounds_toArray, List.set_cons_zero, List.set_cons_succ]
    refine step_none (w' := (w4.drewN q5).setRow w.heap.size CX) (want_none rfl) (run_store_op (by rfl) (by rfl) (by rfl) (store_chg (old := zChg) (HZ.out.2.1) rfl HCX.out.2.1 HCX.out.2.2)) ?_
    refine step_val (v := .int .i64 0) (want_none rfl) rfl ?_
    refine wpList_nil ?_
    simp only [Act.put, List.setIfInBounds_toArray, List.set_cons_zero, List.set_cons_succ]
    go_wp2
    refine bodyPost_ret (results_cell_tmp rfl _ _ w.heap.size 33 CX (0, 0) _ rfl (setRow_heap _ _ _ _ _ _ HZ.out.2.1) Tryz.underlying33 rfl (by rw [chgSize, HCX.out.2.1])) rfl ?_
    refine ⟨?_, (HZ.out.2.2.drewN q5).trans' (setRow_mod _) (fun i hi hg => by omega)⟩
    rw [HRES.out, if_pos (Eq.mpr HIF.out trivial), ← HCX.out.1]
    rfl
end

section
attribute [local go_sem] stPair gtPair gtK8 gtM6
attribute [local go_sem high] neqPair eqK8 eqM6
open Go.RowKit
set_option linter.unusedVariables false
theorem conv_row {S : Nat → Prop} {w : World} {A : Option Addr} {l : List UInt8} (c : Nat) (h : RowAt S w A (bcells l)) : (convert 40 9 (.slice A l.length c)).run Tryz.prog w = .ok (.string (str l)) w := by
  cases A with
  | none =>
    have hl : l = [] := by
      rcases h with h | ⟨b, o, e, _⟩
      · have := congrArg List.length h
        rw [bcells_length] at this
        exact List.eq_nil_of_length_eq_zero (by simpa using this)
      · cases e
    subst hl
    exact Lib.run_convert_nil_bytes w 40 9 5 c Tryz.underlying40 Tryz.underlying5 Tryz.underlying9
  | some ad =>
    refine run_convert_bytes_back w 40 9 5 ad c l Tryz.underlying40 Tryz.underlying5 Tryz.underlying9 (fun j hj => ?_)
    obtain ⟨b, o, e, _, _, hc⟩ := h.open (by intro e; have := congrArg List.length e; rw [bcells_length] at this; simp at this; subst this; simp at hj)
    cases e
    rw [Addr.add_lit]
    exact hc j _ (by simp [bcells, List.getElem?_eq_getElem hj])
set_option maxRecDepth 100000 in
theorem bytes_ok {S S' : Nat → Prop} {w : World} (A B : Option Addr) (c d : Nat) (xs ys : List UInt8) (hx : RowAt S w A (bcells xs)) (hy : RowAt S' w B (bcells ys)) :
    Calls Tryz.prog 9 #[.slice A xs.length c, .slice B ys.length d] w fun e w' => e = .returned (.bool (decide (xs = ys))) ∧ w' = w := by
  have r1 := conv_row c hx
  have r2 := conv_row d hy
  have hb := str_beq xs ys
  have hl1 : (xs.length : Nat) = xs.length := rfl
  clear hx hy
  generalize xs.length = n at r1 ⊢
  generalize ys.length = m at r2 ⊢
  go_enter Tryz.func9, Tryz.ntmps9
  go_wp2
  go_ret
  exact ⟨by rw [← hb]; rfl, rfl⟩
end

section
attribute [local go_sem] stPair gtPair gtK8 gtM6
attribute [local go_sem high] neqPair eqK8 eqM6
open Go.RowKit
set_option linter.unusedVariables false
/-- The closures' numbers, and what they have caught. -/
def tenFn : List Nat := [64, 65, 66, 68, 69, 70, 71, 73, 74, 76, 77, 78, 79, 80, 82, 83, 84, 87, 89]
def bxv (n : Nat) : Value := .pointer (some ⟨n, 0, none⟩)
def tenCap (n : Nat) : List (Array Value) :=
  List.replicate 13 #[bxv n, bxv (n + 1)] ++ [#[bxv n, bxv (n + 1), bxv (n + 2)], #[bxv n, bxv (n + 1), bxv (n + 3)], #[bxv n, bxv (n + 1), bxv (n + 4)], #[bxv n, bxv (n + 2), bxv (n + 1)], #[bxv n, bxv (n + 3), bxv (n + 1), bxv (n + 5)], #[bxv n, bxv (n + 4), bxv (n + 1), bxv (n + 5)]]
def tenRow (n : Nat) : List Value := (tenFn.zip (tenCap n)).map fun x => .func (.func x.1) #[] x.2
theorem ten_enters : ∀ f ∈ tenFn, ∀ (a : Array Value) (W : World), (callFunc f a).run Tryz.prog W = .ok (.enter f a) W := by
  intro f hf a W
  simp only [tenFn, List.mem_cons, List.mem_nil_iff, or_false] at hf
  rcases hf with rfl | rfl | rfl | rfl | rfl | rfl | rfl | rfl | rfl | rfl | rfl | rfl | rfl | rfl | rfl | rfl | rfl | rfl | rfl <;> go_simp
/-- The walk's world under a name. -/
theorem grab_world {P : Program} {c : Code} {Q : Exit → Act → World → Prop} {a : Act} {W : World} (h : ∀ w0, w0 = W → Code.wp P c Q a w0) : Code.wp P c Q a W := h _ rfl
theorem at_eq (w : World) (a : Obj) {i : Nat} (h : i = w.heap.size) : (w.alloc a).heap[i]? = some a := by subst h; exact at10 w a
theorem run_store_func {P : Program} {w : World} {a : Addr} {m : Mode} (f : Fn) (ts cs : Array Value) : (store a (.func f ts cs) m).run P w = stored P w a (.func f ts cs) m := run_store P w a _ m rfl
attribute [local go_sem] run_store_func
set_option maxRecDepth 100000 in
theorem tenant_walk {w : World} {C T o : Nat} (R : World → Prop)
    (H : ∀ w0, Mod No w w0 → Boxes w0 w.heap.size (w.heap.size + 1) C T o → w0.heap[w.heap.size + 2]? = some (.cells #[.int .i64 0] 3 (0, 0)) → w0.heap[w.heap.size + 3]? = some (.cells #[.int .i64 0] 3 (0, 0)) → w0.heap[w.heap.size + 4]? = some (.cells #[.int .i64 0] 3 (0, 0)) →
      w0.heap[w.heap.size + 5]? = some (.cells #[.func (.func 62) #[] #[bxv w.heap.size]] 120 (0, 0)) → w0.heap[w.heap.size + 6]? = some (.cells (tenRow w.heap.size).toArray 1 (0, 0)) →
      ∃ Inv : Nat → World → Prop, Inv 0 w0 ∧ (∀ k w1 f c, tenFn[k]? = some f → (tenCap w.heap.size)[k]? = some c → Inv k w1 → w1.heap[w.heap.size + 6]? = some (.cells (tenRow w.heap.size).toArray 1 (0, 0)) ∧ Calls Tryz.prog f c w1 fun e w' => e = .returned (.tuple #[]) ∧ Inv (k + 1) w') ∧ ∀ w', Inv 19 w' → R w') :
    Calls Tryz.prog 51 #[.pointer (some ⟨C, 0, none⟩), .pointer (some ⟨T, o, none⟩)] w fun e w' => e = .returned (.tuple #[]) ∧ R w' := by
  have HH := Lib.hid H
  clear H
  go_enter Tryz.func51, Tryz.ntmps51
  go_wp2
  refine grab_world fun w0 hw0 => ?_
  have hm0 : Mod No w w0 := by rw [hw0]; repeat (first | with_reducible exact Mod.refl _ _ | refine Mod.alloc ?_ _ | refine Mod.setCell ?_ (.inl (by simp; omega)) _)
  have k0 : w0.heap[w.heap.size]? = some (.cells #[.pointer (some ⟨C, 0, none⟩)] 100 (0, 0)) := by rw [hw0]; (repeat (first | (refine at_eq _ _ ?_; simp; done) | (refine (Below.heap_alloc _ _ _ ?_).trans ?_; (simp; try omega))))
  have k1 : w0.heap[w.heap.size + 1]? = some (.cells #[.pointer (some ⟨T, o, none⟩)] 104 (0, 0)) := by rw [hw0]; (repeat (first | (refine at_eq _ _ ?_; simp; done) | (refine (Below.heap_alloc _ _ _ ?_).trans ?_; (simp; try omega))))
  have k2 : w0.heap[w.heap.size + 2]? = some (.cells #[.int .i64 0] 3 (0, 0)) := by rw [hw0]; (repeat (first | (refine at_eq _ _ ?_; simp; done) | (refine (Below.heap_alloc _ _ _ ?_).trans ?_; (simp; try omega))))
  have k3 : w0.heap[w.heap.size + 3]? = some (.cells #[.int .i64 0] 3 (0, 0)) := by rw [hw0]; (repeat (first | (refine at_eq _ _ ?_; simp; done) | (refine (Below.heap_alloc _ _ _ ?_).trans ?_; (simp; try omega))))
  have k4 : w0.heap[w.heap.size + 4]? = some (.cells #[.int .i64 0] 3 (0, 0)) := by rw [hw0]; (repeat (first | (refine at_eq _ _ ?_; simp; done) | (refine (Below.heap_alloc _ _ _ ?_).trans ?_; (simp; try omega))))
  have k5 : w0.heap[w.heap.size + 5]? = some (.cells #[.func (.func 62) #[] #[bxv w.heap.size]] 120 (0, 0)) := by rw [hw0]; (repeat (first | (refine at_eq _ _ ?_; simp; done) | (refine (Below.heap_alloc _ _ _ ?_).trans ?_; (simp; try omega))))
  have k6 : w0.heap[w.heap.size + 6]? = some (.cells (tenRow w.heap.size).toArray 1 (0, 0)) := by rw [hw0]; refine (at_eq _ _ (by simp)).trans ?_; simp [tenRow, tenFn, tenCap, bxv, List.replicate]
  obtain ⟨Inv, h0, hstep, hend⟩ := HH.out w0 hm0 ⟨k0, k1⟩ k2 k3 k4 k5 k6
  have HI := Lib.hid (And.intro h0 (And.intro hstep hend))
  clear HH h0 hstep hend k0 k1 k2 k3 k4 k5 k6 hm0 hw0
  go_loopw [34] (fun i wr => ∃ k : Nat, i = .int .i64 k ∧ k ≤ 19 ∧ Inv k wr) (fun i _ => 19 - (intOf i).toNat)
  case atStart => exact ⟨0, rfl, by omega, HI.out.1⟩
  case round =>
    obtain ⟨k, rfl, hk, hinv⟩ := hrel
    have HV := Lib.hid hinv
    clear hinv
    by_cases hlt : k < 19
    · obtain ⟨f, hf⟩ : ∃ f, tenFn[k]? = some f := ⟨_, List.getElem?_eq_getElem hlt⟩
      obtain ⟨c, hc⟩ : ∃ c, (tenCap w.heap.size)[k]? = some c := ⟨_, List.getElem?_eq_getElem hlt⟩
      obtain ⟨hrow, hcall⟩ := HI.out.2.1 k _ f c hf hc HV.out
      have hcell : wr.cell? ⟨w.heap.size + 1 + 1 + 1 + 1 + 1 + 1, k, none⟩ = some (.func (.func f) #[] c) := by
        rw [show w.heap.size + 1 + 1 + 1 + 1 + 1 + 1 = w.heap.size + 6 from rfl, blk_cell hrow]
        simp [tenRow, (List.getElem?_zip_eq_some (z := (f, c))).2 ⟨hf, hc⟩]
      have hen := ten_enters f (List.mem_of_getElem? hf)
      have p1 : (0:Int) ≤ k := by omega
      have p2 : (k:Int) < 19 := by omega
      have HC := Lib.hid hcall
      clear hrow hcall hf hc
      go_wp2_with fail
      refine HC.out.mono ?_
      rintro e w2 ⟨rfl, hi⟩
      have HV2 := Lib.hid hi
      clear hi
      go_wp2
      exact ⟨⟨k + 1, by go_num, by omega, HV2.out⟩, by simp [intOf]; omega⟩
    · have hk' : k = 19 := by omega
      subst hk'
      go_wp2
      go_end0
      exact ⟨rfl, HI.out.2.2 _ HV.out⟩
end

end Go.Proofs.YtpkieilmlnlpkaaGreat
