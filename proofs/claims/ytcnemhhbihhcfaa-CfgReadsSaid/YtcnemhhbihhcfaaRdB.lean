/-
  Package cfg: the closures that read a list's elements, a list.
-/
import Derived.Test.YtcnemhhbihhcfaaRdA
namespace Go.Proofs.Ytcnemhhbihhcfaa
open Go.RowKit
set_option linter.unusedVariables false

set_option maxRecDepth 100000 in
theorem each_u32_rd {S : Nat → Prop} {w : World} {C : Nat} {A : Option Addr} {c : Nat} {s0 : St} (B : List UInt8) (hb : w.heap[C]? = some (rdObj A B.length c s0.1 s0.2)) (hrow : RowAt S w A (bcells B)) (hat : s0.1 ≤ B.length) (hc : B.length ≤ c) (hB : B.length ≤ 100000000) (hS : ¬ S C) {bc X : Nat} (hbc : w.heap[bc]? = some (.cells #[.pointer (some ⟨C, 0, none⟩)] 71 (0, 0))) (hX : w.heap[X]? = some (.cells #[.int .u32 0] 22 (0, 0))) (hXC : X ≠ C) :
    Calls Try.prog 73 #[.pointer (some ⟨X, 0, none⟩), .pointer (some ⟨bc, 0, none⟩)] w fun e w' => e = .returned (.tuple #[]) ∧ w'.heap[C]? = some (rdObj A B.length c (rnum B 4 s0).2.1 (rnum B 4 s0).2.2) ∧ w'.heap[X]? = some (.cells [Value.int .u32 ((rnum B 4 s0).1 : Int)].toArray 22 (0, 0)) ∧ Mod (fun b => b = C ∨ b = X) w w' := by
  have HD := Lib.hid (num_u32_rd B hb hrow hat hc hB 4 (by decide) hS (T := X) (o := 0) hX (by decide) hXC)
  have c0 := blk_cell hbc 0
  simp at c0
  clear hb hrow hat hc hB hS hbc hX hXC
  go_enter Try.func73, Try.ntmps73
  go_wp2_with (first | (go_at_call 50; refine HD.out.mono ?_; rintro e w1 ⟨rfl, hr⟩; have HW := Lib.hid hr; clear hr) | fail)
  go_end0
  exact ⟨rfl, HW.out.1, by simpa [rnum] using HW.out.2.1, HW.out.2.2⟩

set_option maxRecDepth 100000 in
theorem each_pr_rd {S : Nat → Prop} {w : World} {C : Nat} {A : Option Addr} {c : Nat} {s0 : St} (B : List UInt8) (hb : w.heap[C]? = some (rdObj A B.length c s0.1 s0.2)) (hrow : RowAt S w A (bcells B)) (hat : s0.1 ≤ B.length) (hc : B.length ≤ c) (hB : B.length ≤ 100000000) (hS : ¬ S C) {bc X : Nat} (hbc : w.heap[bc]? = some (.cells #[.pointer (some ⟨C, 0, none⟩)] 71 (0, 0))) (hX : w.heap[X]? = some (.cells #[.int .u32 0, .int .u32 0] 70 (0, 0))) (hXC : X ≠ C) (hbC : bc ≠ C) (hSX : ¬ S X) (hbX : bc ≠ X) :
    Calls Try.prog 49 #[.pointer (some ⟨X, 0, none⟩), .pointer (some ⟨bc, 0, none⟩)] w fun e w' => e = .returned (.tuple #[]) ∧ w'.heap[C]? = some (rdObj A B.length c (rpr B s0).2.1 (rpr B s0).2.2) ∧ w'.heap[X]? = some (.cells (rpr B s0).1.cells.toArray 70 (0, 0)) ∧ Mod (fun b => b = C ∨ b = X) w w' := by
  have hd1 : ∀ W1, W1 = w.drew → Calls Try.prog 50 #[.pointer (some ⟨C, 0, none⟩), .int .i64 4, .pointer (some ⟨X, 0, none⟩)] W1 fun e w' => e = .returned (.tuple #[]) ∧ w'.cell? ⟨bc, 0, none⟩ = some (.pointer (some ⟨C, 0, none⟩)) ∧
      ∀ W2, W2 = w'.drew → Calls Try.prog 50 #[.pointer (some ⟨C, 0, none⟩), .int .i64 4, .pointer (some ⟨X, 1, none⟩)] W2 fun e w'' => e = .returned (.tuple #[]) ∧ w''.heap[C]? = some (rdObj A B.length c (rpr B s0).2.1 (rpr B s0).2.2) ∧ w''.heap[X]? = some (.cells (rpr B s0).1.cells.toArray 70 (0, 0)) ∧ Mod (fun b => b = C ∨ b = X) w w'' := by
    intro W1 hW1
    subst hW1
    have hkd : Keeps S w w.drew := Mod.keeps (Mod.drew (Mod.refl No w)) (fun _ _ _ f => f)
    refine (num_u32_rd (w := w.drew) B hb (hrow.keeps hkd) hat hc hB 4 (by decide) hS (T := X) (o := 0) hX (by decide) hXC).mono fun e w' ⟨he, a1, a2, a3⟩ => ?_
    have m1 : Mod (fun b => b = C ∨ b = X) w w' := (Mod.refl _ w).drew.trans a3
    refine ⟨he, (blk_cell (m1.obj hbc (by rintro (f | f); exact hbC f; exact hbX f)) 0).trans rfl, fun W2 hW2 => ?_⟩
    subst hW2
    have hr2 : RowAt S w'.drew A (bcells B) := hrow.keeps ((m1.drew).keeps (fun b _ hs f => by rcases f with f | f; exact hS (by subst f; exact hs); exact hSX (by subst f; exact hs)))
    refine (num_u32_rd (w := w'.drew) B a1 hr2 (rtake_le B _ 4 hat) hc hB 4 (by decide) hS (T := X) (o := 1) a2 (by simp) hXC).mono fun e w'' ⟨he, b1, b2, b3⟩ => ⟨he, b1, ?_, (m1.drew).trans b3⟩
    rw [b2]
    simp [rpr, rnum, Pr.cells]
  have c0 := blk_cell hbc 0
  simp at c0
  have HD := Lib.hid hd1
  obtain ⟨R, hR⟩ : ∃ R : World → Prop, R = fun w'' => w''.heap[C]? = some (rdObj A B.length c (rpr B s0).2.1 (rpr B s0).2.2) ∧ w''.heap[X]? = some (.cells (rpr B s0).1.cells.toArray 70 (0, 0)) ∧ Mod (fun b => b = C ∨ b = X) w w'' := ⟨_, rfl⟩
  have hd2 : ∀ W1, W1 = w.drew → Calls Try.prog 50 #[.pointer (some ⟨C, 0, none⟩), .int .i64 4, .pointer (some ⟨X, 0, none⟩)] W1 fun e w' => e = .returned (.tuple #[]) ∧ w'.cell? ⟨bc, 0, none⟩ = some (.pointer (some ⟨C, 0, none⟩)) ∧
      ∀ W2, W2 = w'.drew → Calls Try.prog 50 #[.pointer (some ⟨C, 0, none⟩), .int .i64 4, .pointer (some ⟨X, 1, none⟩)] W2 fun e w'' => e = .returned (.tuple #[]) ∧ R w'' := by rw [hR]; exact hd1
  suffices hs : Calls Try.prog 49 #[.pointer (some ⟨X, 0, none⟩), .pointer (some ⟨bc, 0, none⟩)] w fun e w' => e = .returned (.tuple #[]) ∧ R w' by
    rw [hR] at hs; exact hs
  have HD := Lib.hid hd2
  clear hb hrow hat hc hB hS hbc hX hXC hbC hSX hbX hd1 hd2 hR
  go_enter Try.func49, Try.ntmps49
  go_wp2_with fail
  go_region_law (first | (go_simp; go_at_call 50; refine (HD.out _ rfl).mono ?_; rintro e w1 ⟨rfl, d0, hr⟩; have H2 := Lib.hid hr; clear hr))
  all_goals
    go_wp2_with fail
    go_region_law (first | (go_simp; go_at_call 50; refine (H2.out _ rfl).mono ?_; rintro e w2 ⟨rfl, hr⟩; have HW := Lib.hid hr; clear hr))
  all_goals
    go_wp2
    first | go_end0 | (simp only [Exit.inBlock, Exit.then]; refine bodyPost_ret (results_none rfl _ _ _) rfl ?_) | refine bodyPost_ret (results_none rfl _ _ _) rfl ?_
    exact ⟨rfl, HW.out⟩

set_option maxRecDepth 100000 in
theorem ten_lpool_rd {S : Nat → Prop} {w : World} {C : Nat} {A : Option Addr} {c : Nat} {s0 : St} (B : List UInt8) (hb : w.heap[C]? = some (rdObj A B.length c s0.1 s0.2)) (hrow : RowAt S w A (bcells B)) (hat : s0.1 ≤ B.length) (hc : B.length ≤ c) (hB : B.length ≤ 100000000) (hS : ¬ S C) {bc bt bp T o n : Nat} (hST : ¬ S T) (hx : Boxes w bc bt C T o) (hbC : bc ≠ C) (hbT : bc ≠ T) (hn : n ≤ 1000) (hSn : ∀ b, S b → b < w.heap.size) (hp : w.heap[bp]? = some (.cells #[.int .i64 (n : Int)] 3 (0, 0)))
    {cs : Array Value} {t : TypeId} (hT : w.heap[T]? = some (.cells cs t (0, 0))) (ho : o + 23 < cs.size) (h1 : T ≠ C) :
    Calls Try.prog 71 #[.pointer (some ⟨bc, 0, none⟩), .pointer (some ⟨bp, 0, none⟩), .pointer (some ⟨bt, 0, none⟩)] w fun e w' => e = .returned (.tuple #[]) ∧ w'.heap[C]? = some (rdObj A B.length c (rmany (rnum B 4) n s0).2.1 (rmany (rnum B 4) n s0).2.2) ∧
      (∃ v, w'.heap[T]? = some (.cells (cs.setIfInBounds (o + 23) v) t (0, 0)) ∧ w'.ownsRow w.heap.size 22 1 v (rmany (rnum B 4) n s0).1.length (numCells (rmany (rnum B 4) n s0).1)) ∧ Mod (fun b => b = C ∨ b = T) w w' := by
  obtain ⟨R, hR⟩ : ∃ R : World → Prop, R = fun w' => w'.heap[C]? = some (rdObj A B.length c (rmany (rnum B 4) n s0).2.1 (rmany (rnum B 4) n s0).2.2) ∧
      (∃ v, w'.heap[T]? = some (.cells (cs.setIfInBounds (o + 23) v) t (0, 0)) ∧ w'.ownsRow w.heap.size 22 1 v (rmany (rnum B 4) n s0).1.length (numCells (rmany (rnum B 4) n s0).1)) ∧ Mod (fun b => b = C ∨ b = T) w w' := ⟨_, rfl⟩
  have hd : ∀ W, W = w.drew → Calls Try.prog 72 #[.pointer (some ⟨C, 0, none⟩), .int .i64 n, .pointer (some ⟨T, o + 23, none⟩), .func (.func 73) #[] #[.pointer (some ⟨bc, 0, none⟩)]] W fun e w' => e = .returned (.tuple #[]) ∧ R w' := by
    intro W hW
    subst hW
    rw [hR]
    refine (list_u32_rd (w := w.drew) (S := S) B hb (hrow.keeps (Mod.keeps (Mod.drew (Mod.refl No w)) (fun _ _ _ f => f))) hat hS (T := T) (o := o + 23) hST hT ho h1 n hn 73 (.pointer (some ⟨bc, 0, none⟩)) (fun a W => by go_simp)
      (fun W s X hm hC hs hr hX hXs => ?_)).mono fun e w' ⟨e1, e2, e3, e4⟩ => ⟨e1, e2, e3, (Mod.refl _ w).drew.trans e4⟩
    have hXs' : w.heap.size ≤ X := hXs
    have hlC := lt_of_block hb
    have hbcW := hm.obj (w := w.drew) hx.c (by rintro (f | f); exact hbC f; exact hbT f)
    have hlb := lt_of_block hx.c
    exact each_u32_rd B hC hr hs hc hB hS hbcW hX (by omega)
  have c0 := blk_cell hx.c 0
  have c1 := blk_cell hx.t 0
  have c2 := blk_cell hp 0
  simp at c0 c1 c2
  suffices hs : Calls Try.prog 71 #[.pointer (some ⟨bc, 0, none⟩), .pointer (some ⟨bp, 0, none⟩), .pointer (some ⟨bt, 0, none⟩)] w fun e w' => e = .returned (.tuple #[]) ∧ R w' by
    rw [hR] at hs; exact hs
  have HD := Lib.hid hd
  clear hb hrow hat hc hB hS hx hT ho hd hR hp hbC hbT hn h1 hST hSn
  go_enter Try.func71, Try.ntmps71
  go_wp2_with fail
  go_region_law (first | (go_simp; go_at_call 72; refine (HD.out _ rfl).mono ?_; rintro e w1 ⟨rfl, hr⟩; have HW := Lib.hid hr; clear hr))
  all_goals
    go_wp2
    first | go_end0 | (simp only [Exit.inBlock, Exit.then]; refine bodyPost_ret (results_none rfl _ _ _) rfl ?_) | refine bodyPost_ret (results_none rfl _ _ _) rfl ?_
    exact ⟨rfl, HW.out⟩

set_option maxRecDepth 100000 in
theorem ten_lstatics_rd {S : Nat → Prop} {w : World} {C : Nat} {A : Option Addr} {c : Nat} {s0 : St} (B : List UInt8) (hb : w.heap[C]? = some (rdObj A B.length c s0.1 s0.2)) (hrow : RowAt S w A (bcells B)) (hat : s0.1 ≤ B.length) (hc : B.length ≤ c) (hB : B.length ≤ 100000000) (hS : ¬ S C) {bc bt bp bq T o n : Nat} (hST : ¬ S T) (hx : Boxes w bc bt C T o) (hbC : bc ≠ C) (hbT : bc ≠ T) (hn : n ≤ 1000) (hSn : ∀ b, S b → b < w.heap.size) (hp : w.heap[bp]? = some (.cells #[.int .i64 (n : Int)] 3 (0, 0))) (hq : w.heap[bq]? = some (.cells #[.func (.func 49) #[] #[.pointer (some ⟨bc, 0, none⟩)]] 97 (0, 0)))
    {cs : Array Value} {t : TypeId} (hT : w.heap[T]? = some (.cells cs t (0, 0))) (ho : o + 27 < cs.size) (h1 : T ≠ C) :
    Calls Try.prog 74 #[.pointer (some ⟨bc, 0, none⟩), .pointer (some ⟨bp, 0, none⟩), .pointer (some ⟨bt, 0, none⟩), .pointer (some ⟨bq, 0, none⟩)] w fun e w' => e = .returned (.tuple #[]) ∧ w'.heap[C]? = some (rdObj A B.length c (rmany (rpr B) n s0).2.1 (rmany (rpr B) n s0).2.2) ∧
      (∃ v, w'.heap[T]? = some (.cells (cs.setIfInBounds (o + 27) v) t (0, 0)) ∧ w'.ownsRow w.heap.size 70 2 v (rmany (rpr B) n s0).1.length (prCells (rmany (rpr B) n s0).1)) ∧ Mod (fun b => b = C ∨ b = T) w w' := by
  obtain ⟨R, hR⟩ : ∃ R : World → Prop, R = fun w' => w'.heap[C]? = some (rdObj A B.length c (rmany (rpr B) n s0).2.1 (rmany (rpr B) n s0).2.2) ∧
      (∃ v, w'.heap[T]? = some (.cells (cs.setIfInBounds (o + 27) v) t (0, 0)) ∧ w'.ownsRow w.heap.size 70 2 v (rmany (rpr B) n s0).1.length (prCells (rmany (rpr B) n s0).1)) ∧ Mod (fun b => b = C ∨ b = T) w w' := ⟨_, rfl⟩
  have hd : ∀ W, W = w.drew → Calls Try.prog 75 #[.pointer (some ⟨C, 0, none⟩), .int .i64 n, .pointer (some ⟨T, o + 27, none⟩), .func (.func 49) #[] #[.pointer (some ⟨bc, 0, none⟩)]] W fun e w' => e = .returned (.tuple #[]) ∧ R w' := by
    intro W hW
    subst hW
    rw [hR]
    refine (list_pr_rd (w := w.drew) (S := S) B hb (hrow.keeps (Mod.keeps (Mod.drew (Mod.refl No w)) (fun _ _ _ f => f))) hat hS (T := T) (o := o + 27) hST hT ho h1 n hn 49 (.pointer (some ⟨bc, 0, none⟩)) (fun a W => by go_simp)
      (fun W s X hm hC hs hr hX hXs => ?_)).mono fun e w' ⟨e1, e2, e3, e4⟩ => ⟨e1, e2, e3, (Mod.refl _ w).drew.trans e4⟩
    have hXs' : w.heap.size ≤ X := hXs
    have hlC := lt_of_block hb
    have hbcW := hm.obj (w := w.drew) hx.c (by rintro (f | f); exact hbC f; exact hbT f)
    have hlb := lt_of_block hx.c
    exact each_pr_rd B hC hr hs hc hB hS hbcW hX (by omega) hbC (fun f => by have := hSn X f; omega) (by omega)
  have c0 := blk_cell hx.c 0
  have c1 := blk_cell hx.t 0
  have c2 := blk_cell hp 0
  have c3 := blk_cell hq 0
  simp at c0 c1 c2 c3
  suffices hs : Calls Try.prog 74 #[.pointer (some ⟨bc, 0, none⟩), .pointer (some ⟨bp, 0, none⟩), .pointer (some ⟨bt, 0, none⟩), .pointer (some ⟨bq, 0, none⟩)] w fun e w' => e = .returned (.tuple #[]) ∧ R w' by
    rw [hR] at hs; exact hs
  have HD := Lib.hid hd
  clear hb hrow hat hc hB hS hx hT ho hd hR hp hbC hbT hn h1 hST hSn hq
  go_enter Try.func74, Try.ntmps74
  go_wp2_with fail
  go_region_law (first | (go_simp; go_at_call 75; refine (HD.out _ rfl).mono ?_; rintro e w1 ⟨rfl, hr⟩; have HW := Lib.hid hr; clear hr))
  all_goals
    go_wp2
    first | go_end0 | (simp only [Exit.inBlock, Exit.then]; refine bodyPost_ret (results_none rfl _ _ _) rfl ?_) | refine bodyPost_ret (results_none rfl _ _ _) rfl ?_
    exact ⟨rfl, HW.out⟩

set_option maxRecDepth 100000 in
theorem ten_ltwices_rd {S : Nat → Prop} {w : World} {C : Nat} {A : Option Addr} {c : Nat} {s0 : St} (B : List UInt8) (hb : w.heap[C]? = some (rdObj A B.length c s0.1 s0.2)) (hrow : RowAt S w A (bcells B)) (hat : s0.1 ≤ B.length) (hc : B.length ≤ c) (hB : B.length ≤ 100000000) (hS : ¬ S C) {bc bt bp bq T o n : Nat} (hST : ¬ S T) (hx : Boxes w bc bt C T o) (hbC : bc ≠ C) (hbT : bc ≠ T) (hn : n ≤ 1000) (hSn : ∀ b, S b → b < w.heap.size) (hp : w.heap[bp]? = some (.cells #[.int .i64 (n : Int)] 3 (0, 0))) (hq : w.heap[bq]? = some (.cells #[.func (.func 49) #[] #[.pointer (some ⟨bc, 0, none⟩)]] 97 (0, 0)))
    {cs : Array Value} {t : TypeId} (hT : w.heap[T]? = some (.cells cs t (0, 0))) (ho : o + 28 < cs.size) (h1 : T ≠ C) :
    Calls Try.prog 76 #[.pointer (some ⟨bc, 0, none⟩), .pointer (some ⟨bp, 0, none⟩), .pointer (some ⟨bt, 0, none⟩), .pointer (some ⟨bq, 0, none⟩)] w fun e w' => e = .returned (.tuple #[]) ∧ w'.heap[C]? = some (rdObj A B.length c (rmany (rpr B) n s0).2.1 (rmany (rpr B) n s0).2.2) ∧
      (∃ v, w'.heap[T]? = some (.cells (cs.setIfInBounds (o + 28) v) t (0, 0)) ∧ w'.ownsRow w.heap.size 70 2 v (rmany (rpr B) n s0).1.length (prCells (rmany (rpr B) n s0).1)) ∧ Mod (fun b => b = C ∨ b = T) w w' := by
  obtain ⟨R, hR⟩ : ∃ R : World → Prop, R = fun w' => w'.heap[C]? = some (rdObj A B.length c (rmany (rpr B) n s0).2.1 (rmany (rpr B) n s0).2.2) ∧
      (∃ v, w'.heap[T]? = some (.cells (cs.setIfInBounds (o + 28) v) t (0, 0)) ∧ w'.ownsRow w.heap.size 70 2 v (rmany (rpr B) n s0).1.length (prCells (rmany (rpr B) n s0).1)) ∧ Mod (fun b => b = C ∨ b = T) w w' := ⟨_, rfl⟩
  have hd : ∀ W, W = w.drew → Calls Try.prog 75 #[.pointer (some ⟨C, 0, none⟩), .int .i64 n, .pointer (some ⟨T, o + 28, none⟩), .func (.func 49) #[] #[.pointer (some ⟨bc, 0, none⟩)]] W fun e w' => e = .returned (.tuple #[]) ∧ R w' := by
    intro W hW
    subst hW
    rw [hR]
    refine (list_pr_rd (w := w.drew) (S := S) B hb (hrow.keeps (Mod.keeps (Mod.drew (Mod.refl No w)) (fun _ _ _ f => f))) hat hS (T := T) (o := o + 28) hST hT ho h1 n hn 49 (.pointer (some ⟨bc, 0, none⟩)) (fun a W => by go_simp)
      (fun W s X hm hC hs hr hX hXs => ?_)).mono fun e w' ⟨e1, e2, e3, e4⟩ => ⟨e1, e2, e3, (Mod.refl _ w).drew.trans e4⟩
    have hXs' : w.heap.size ≤ X := hXs
    have hlC := lt_of_block hb
    have hbcW := hm.obj (w := w.drew) hx.c (by rintro (f | f); exact hbC f; exact hbT f)
    have hlb := lt_of_block hx.c
    exact each_pr_rd B hC hr hs hc hB hS hbcW hX (by omega) hbC (fun f => by have := hSn X f; omega) (by omega)
  have c0 := blk_cell hx.c 0
  have c1 := blk_cell hx.t 0
  have c2 := blk_cell hp 0
  have c3 := blk_cell hq 0
  simp at c0 c1 c2 c3
  suffices hs : Calls Try.prog 76 #[.pointer (some ⟨bc, 0, none⟩), .pointer (some ⟨bp, 0, none⟩), .pointer (some ⟨bt, 0, none⟩), .pointer (some ⟨bq, 0, none⟩)] w fun e w' => e = .returned (.tuple #[]) ∧ R w' by
    rw [hR] at hs; exact hs
  have HD := Lib.hid hd
  clear hb hrow hat hc hB hS hx hT ho hd hR hp hbC hbT hn h1 hST hSn hq
  go_enter Try.func76, Try.ntmps76
  go_wp2_with fail
  go_region_law (first | (go_simp; go_at_call 75; refine (HD.out _ rfl).mono ?_; rintro e w1 ⟨rfl, hr⟩; have HW := Lib.hid hr; clear hr))
  all_goals
    go_wp2
    first | go_end0 | (simp only [Exit.inBlock, Exit.then]; refine bodyPost_ret (results_none rfl _ _ _) rfl ?_) | refine bodyPost_ret (results_none rfl _ _ _) rfl ?_
    exact ⟨rfl, HW.out⟩

end Go.Proofs.Ytcnemhhbihhcfaa
