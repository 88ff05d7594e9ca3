/-
  Package cfg: the closures that code a list's elements, writing.
-/
import Derived.Test.YtcnemhhbihhcfaaCfgP
namespace Go.Proofs.Ytcnemhhbihhcfaa
open Go.RowKit
set_option linter.unusedVariables false

set_option maxRecDepth 100000 in
theorem each_u32_wr {W : World} {C base : Nat} {L : List UInt8} {v : Value} (h : Wr W C base L v) (hb : base ≤ W.heap.size) (hL : L.length ≤ 90000000) {bc X z : Nat} (hc : W.heap[bc]? = some (.cells #[.pointer (some ⟨C, 0, none⟩)] 71 (0, 0)))
    (hX : W.heap[X]? = some (.cells #[.int .u32 (z : Int)] 22 (0, 0))) (hz : z < 4294967296) (hXC : X ≠ C) :
    Calls Try.prog 73 #[.pointer (some ⟨X, 0, none⟩), .pointer (some ⟨bc, 0, none⟩)] W fun e W' => e = .returned (.tuple #[]) ∧ ∃ v', Wr W' C base (L ++ be 4 z) v' ∧ WMod C v W v' W' := by
  have HD := Lib.hid (num_u32_wr h hb 4 z (by decide) hL (T := X) (o := 0) (z := z) (by simpa using blk_cell hX 0) (wrap_u64 z (by omega)) hXC (h.ne hX (by decide)))
  have c0 := blk_cell hc 0
  simp at c0
  clear h hb hL hc hX hXC
  go_enter Try.func73, Try.ntmps73
  go_wp2_with (first | (go_at_call 50; refine HD.out.mono ?_; rintro e w1 ⟨rfl, v', hw1, hm1⟩; have HW := Lib.hid (And.intro hw1 hm1); clear hw1 hm1) | fail)
  go_end0
  exact ⟨rfl, v', HW.out.1, HW.out.2⟩

set_option maxRecDepth 100000 in
theorem each_pr_wr {W : World} {C base : Nat} {L : List UInt8} {v : Value} (h : Wr W C base L v) (hb : base ≤ W.heap.size) (hL : L.length ≤ 89000000) {bc X : Nat} {z : Pr} (hc : W.heap[bc]? = some (.cells #[.pointer (some ⟨C, 0, none⟩)] 71 (0, 0)))
    (hX : W.heap[X]? = some (.cells #[.int .u32 (z.a : Int), .int .u32 (z.b : Int)] 70 (0, 0))) (hza : z.a < 4294967296) (hzb : z.b < 4294967296) (hXC : X ≠ C) (hbC : bc ≠ C) :
    Calls Try.prog 49 #[.pointer (some ⟨X, 0, none⟩), .pointer (some ⟨bc, 0, none⟩)] W fun e W' => e = .returned (.tuple #[]) ∧ ∃ v', Wr W' C base (L ++ (be 4 z.a ++ be 4 z.b)) v' ∧ WMod C v W v' W' := by
  have hd1 : ∀ W1, W1 = W.drew → Calls Try.prog 50 #[.pointer (some ⟨C, 0, none⟩), .int .i64 4, .pointer (some ⟨X, 0, none⟩)] W1 fun e w' => e = .returned (.tuple #[]) ∧ w'.cell? ⟨bc, 0, none⟩ = some (.pointer (some ⟨C, 0, none⟩)) ∧
      ∀ W2, W2 = w'.drew → Calls Try.prog 50 #[.pointer (some ⟨C, 0, none⟩), .int .i64 4, .pointer (some ⟨X, 1, none⟩)] W2 fun e w'' => e = .returned (.tuple #[]) ∧ ∃ v', Wr w'' C base (L ++ (be 4 z.a ++ be 4 z.b)) v' ∧ WMod C v W v' w'' := by
    intro W1 hW1
    subst hW1
    refine (num_u32_wr (w := W.drew) ⟨h.blk, h.own⟩ hb 4 z.a (by decide) (by omega) (T := X) (o := 0) (z := z.a) ((blk_cell hX 0).trans rfl) (wrap_u64 _ (by omega)) hXC (h.ne hX (by decide))).mono fun e w' ⟨he, v1, a1, a2⟩ => ?_
    have hX' := a2.obj (w := W.drew) hX hXC (h.ne hX (by decide))
    have hc' := a2.obj (w := W.drew) hc hbC (h.ne hc (by decide))
    refine ⟨he, (blk_cell hc' 0).trans rfl, fun W2 hW2 => ?_⟩
    subst hW2
    refine (num_u32_wr (w := w'.drew) ⟨a1.blk, a1.own⟩ (Nat.le_trans hb a2.mod.size) 4 z.b (by decide) (by rw [List.length_append, be_length]; omega) (T := X) (o := 1) (z := z.b) ((blk_cell hX' 1).trans rfl) (wrap_u64 _ (by omega)) hXC (a1.ne hX' (by decide))).mono fun e w'' ⟨he, v2, b1, b2⟩ => ⟨he, v2, by rw [← List.append_assoc]; exact b1, ?_⟩
    have s1 : WMod C v W v1 w' := ⟨(Mod.refl _ W).drew.trans a2.mod, a2.row⟩
    have s2 : WMod C v1 w' v2 w'' := ⟨(Mod.refl _ w').drew.trans b2.mod, b2.row⟩
    exact s1.trans s2
  have c0 := blk_cell hc 0
  simp at c0
  have HD := Lib.hid hd1
  clear h hb hL hc hX hXC hbC hd1
  go_enter Try.func49, Try.ntmps49
  go_wp2_with fail
  go_region_law (first | (go_simp; go_at_call 50; refine (HD.out _ rfl).mono ?_; rintro e w1 ⟨rfl, d0, hr⟩; have H2 := Lib.hid hr; clear hr))
  all_goals
    go_wp2_with fail
    go_region_law (first | (go_simp; go_at_call 50; refine (H2.out _ rfl).mono ?_; rintro e w2 ⟨rfl, hr⟩; have HW := Lib.hid hr; clear hr))
  all_goals
    go_wp2
    first | go_end0 | (simp only [Exit.inBlock, Exit.then]; refine bodyPost_ret (results_none rfl _ _ _) rfl ?_) | refine bodyPost_ret (results_none rfl _ _ _) rfl ?_
    exact ⟨rfl, HW.out⟩

set_option maxRecDepth 100000 in
theorem ten_lpool_wr {w : World} {C base : Nat} {L : List UInt8} {v : Value} {bc bt bp T o k p : Nat} {P : Option Addr} (h : Wr w C base L v) (hb : base ≤ w.heap.size) (hL : L.length ≤ 80000000) (hx : Boxes w bc bt C T o) (hbC : bc ≠ C)
    (l : List Nat) (hl : ∀ x ∈ l, x < 4294967296) (hk : k ≤ l.length) (hk8 : k ≤ 1000) (hp : w.heap[bp]? = some (.cells #[.int .i64 (k : Int)] 3 (0, 0)))
    (hrow : RowAt (fun b => b ≠ C ∧ v.ownBlock ≠ some b ∧ b < w.heap.size) w P (numCells l)) (hT : w.cell? ⟨T, o + 23, none⟩ = some (.slice P l.length p)) (h1 : T ≠ C) (h2 : v.ownBlock ≠ some T) :
    Calls Try.prog 71 #[.pointer (some ⟨bc, 0, none⟩), .pointer (some ⟨bp, 0, none⟩), .pointer (some ⟨bt, 0, none⟩)] w fun e w' => e = .returned (.tuple #[]) ∧ ∃ v', Wr w' C base (L ++ nums4 (l.take k)) v' ∧ WMod C v w v' w' := by
  have hd : ∀ W, W = w.drew → Calls Try.prog 72 #[.pointer (some ⟨C, 0, none⟩), .int .i64 k, .pointer (some ⟨T, o + 23, none⟩), .func (.func 73) #[] #[.pointer (some ⟨bc, 0, none⟩)]] W fun e w' => e = .returned (.tuple #[]) ∧ ∃ v', Wr w' C base (L ++ nums4 (l.take k)) v' ∧ WMod C v w v' w' := by
    intro W hW
    subst hW
    have hlw := list_u32_wr (w := w.drew) (v := v) ⟨h.blk, h.own⟩ hb hL (T := T) (o := o + 23) l hk hk8 (hrow.keeps (Mod.keeps (Mod.drew (Mod.refl No w)) (fun _ _ _ f => f))) hT h1 h2 73 (.pointer (some ⟨bc, 0, none⟩)) (fun a W => by go_simp)
      (fun W L' v' X z hW hm hL' hX hXs hXo hz => each_u32_wr hW (Nat.le_trans hb hm.mod.size) (by omega) (hm.obj (w := w.drew) hx.c hbC (h.ne hx.c (by decide))) hX (hl z hz) (fun e => by have hXs' : w.heap.size ≤ X := hXs; have := lt_of_block h.blk; omega))
    exact hlw.mono fun e w' ⟨he, v', a1, a2⟩ => ⟨he, v', a1, ⟨(Mod.refl _ w).drew.trans a2.mod, a2.row⟩⟩
  have c0 := blk_cell hx.c 0
  have c1 := blk_cell hx.t 0
  have c2 := blk_cell hp 0
  simp at c0 c1 c2
  have HD := Lib.hid hd
  clear h hb hL hx hbC hl hk hk8 hp hrow hT h1 h2 hd
  go_enter Try.func71, Try.ntmps71
  go_wp2_with fail
  go_region_law (first | (go_simp; go_at_call 72; refine (HD.out _ rfl).mono ?_; rintro e w1 ⟨rfl, v', hw1, hm1⟩; have HW := Lib.hid (And.intro hw1 hm1); clear hw1 hm1))
  all_goals
    go_wp2
    first | go_end0 | (simp only [Exit.inBlock, Exit.then]; refine bodyPost_ret (results_none rfl _ _ _) rfl ?_) | refine bodyPost_ret (results_none rfl _ _ _) rfl ?_
    exact ⟨rfl, v', HW.out.1, HW.out.2⟩

set_option maxRecDepth 100000 in
theorem ten_lstatics_wr {w : World} {C base : Nat} {L : List UInt8} {v : Value} {bc bt bp bq T o k p : Nat} {P : Option Addr} (h : Wr w C base L v) (hb : base ≤ w.heap.size) (hL : L.length ≤ 80000000) (hx : Boxes w bc bt C T o) (hbC : bc ≠ C)
    (l : List Pr) (hl : ∀ x ∈ l, x.a < 4294967296 ∧ x.b < 4294967296) (hk : k ≤ l.length) (hk8 : k ≤ 1000) (hp : w.heap[bp]? = some (.cells #[.int .i64 (k : Int)] 3 (0, 0))) (hq : w.heap[bq]? = some (.cells #[.func (.func 49) #[] #[.pointer (some ⟨bc, 0, none⟩)]] 97 (0, 0)))
    (hrow : RowAt (fun b => b ≠ C ∧ v.ownBlock ≠ some b ∧ b < w.heap.size) w P (prCells l)) (hT : w.cell? ⟨T, o + 27, none⟩ = some (.slice P l.length p)) (h1 : T ≠ C) (h2 : v.ownBlock ≠ some T) :
    Calls Try.prog 74 #[.pointer (some ⟨bc, 0, none⟩), .pointer (some ⟨bp, 0, none⟩), .pointer (some ⟨bt, 0, none⟩), .pointer (some ⟨bq, 0, none⟩)] w fun e w' => e = .returned (.tuple #[]) ∧ ∃ v', Wr w' C base (L ++ prs8 (l.take k)) v' ∧ WMod C v w v' w' := by
  have hd : ∀ W, W = w.drew → Calls Try.prog 75 #[.pointer (some ⟨C, 0, none⟩), .int .i64 k, .pointer (some ⟨T, o + 27, none⟩), .func (.func 49) #[] #[.pointer (some ⟨bc, 0, none⟩)]] W fun e w' => e = .returned (.tuple #[]) ∧ ∃ v', Wr w' C base (L ++ prs8 (l.take k)) v' ∧ WMod C v w v' w' := by
    intro W hW
    subst hW
    have hlw := list_pr_wr (w := w.drew) (v := v) ⟨h.blk, h.own⟩ hb hL (T := T) (o := o + 27) l hk hk8 (hrow.keeps (Mod.keeps (Mod.drew (Mod.refl No w)) (fun _ _ _ f => f))) hT h1 h2 49 (.pointer (some ⟨bc, 0, none⟩)) (fun a W => by go_simp)
      (fun W L' v' X z hW hm hL' hX hXs hXo hz => each_pr_wr hW (Nat.le_trans hb hm.mod.size) hL' (hm.obj (w := w.drew) hx.c hbC (h.ne hx.c (by decide))) hX (hl z hz).1 (hl z hz).2 (fun e => by have hXs' : w.heap.size ≤ X := hXs; have := lt_of_block h.blk; omega) hbC)
    exact hlw.mono fun e w' ⟨he, v', a1, a2⟩ => ⟨he, v', a1, ⟨(Mod.refl _ w).drew.trans a2.mod, a2.row⟩⟩
  have c0 := blk_cell hx.c 0
  have c1 := blk_cell hx.t 0
  have c2 := blk_cell hp 0
  have c3 := blk_cell hq 0
  simp at c0 c1 c2 c3
  have HD := Lib.hid hd
  clear h hb hL hx hbC hl hk hk8 hp hq hrow hT h1 h2 hd
  go_enter Try.func74, Try.ntmps74
  go_wp2_with fail
  go_region_law (first | (go_simp; go_at_call 75; refine (HD.out _ rfl).mono ?_; rintro e w1 ⟨rfl, v', hw1, hm1⟩; have HW := Lib.hid (And.intro hw1 hm1); clear hw1 hm1))
  all_goals
    go_wp2
    first | go_end0 | (simp only [Exit.inBlock, Exit.then]; refine bodyPost_ret (results_none rfl _ _ _) rfl ?_) | refine bodyPost_ret (results_none rfl _ _ _) rfl ?_
    exact ⟨rfl, v', HW.out.1, HW.out.2⟩

set_option maxRecDepth 100000 in
theorem ten_ltwices_wr {w : World} {C base : Nat} {L : List UInt8} {v : Value} {bc bt bp bq T o k p : Nat} {P : Option Addr} (h : Wr w C base L v) (hb : base ≤ w.heap.size) (hL : L.length ≤ 80000000) (hx : Boxes w bc bt C T o) (hbC : bc ≠ C)
    (l : List Pr) (hl : ∀ x ∈ l, x.a < 4294967296 ∧ x.b < 4294967296) (hk : k ≤ l.length) (hk8 : k ≤ 1000) (hp : w.heap[bp]? = some (.cells #[.int .i64 (k : Int)] 3 (0, 0))) (hq : w.heap[bq]? = some (.cells #[.func (.func 49) #[] #[.pointer (some ⟨bc, 0, none⟩)]] 97 (0, 0)))
    (hrow : RowAt (fun b => b ≠ C ∧ v.ownBlock ≠ some b ∧ b < w.heap.size) w P (prCells l)) (hT : w.cell? ⟨T, o + 28, none⟩ = some (.slice P l.length p)) (h1 : T ≠ C) (h2 : v.ownBlock ≠ some T) :
    Calls Try.prog 76 #[.pointer (some ⟨bc, 0, none⟩), .pointer (some ⟨bp, 0, none⟩), .pointer (some ⟨bt, 0, none⟩), .pointer (some ⟨bq, 0, none⟩)] w fun e w' => e = .returned (.tuple #[]) ∧ ∃ v', Wr w' C base (L ++ prs8 (l.take k)) v' ∧ WMod C v w v' w' := by
  have hd : ∀ W, W = w.drew → Calls Try.prog 75 #[.pointer (some ⟨C, 0, none⟩), .int .i64 k, .pointer (some ⟨T, o + 28, none⟩), .func (.func 49) #[] #[.pointer (some ⟨bc, 0, none⟩)]] W fun e w' => e = .returned (.tuple #[]) ∧ ∃ v', Wr w' C base (L ++ prs8 (l.take k)) v' ∧ WMod C v w v' w' := by
    intro W hW
    subst hW
    have hlw := list_pr_wr (w := w.drew) (v := v) ⟨h.blk, h.own⟩ hb hL (T := T) (o := o + 28) l hk hk8 (hrow.keeps (Mod.keeps (Mod.drew (Mod.refl No w)) (fun _ _ _ f => f))) hT h1 h2 49 (.pointer (some ⟨bc, 0, none⟩)) (fun a W => by go_simp)
      (fun W L' v' X z hW hm hL' hX hXs hXo hz => each_pr_wr hW (Nat.le_trans hb hm.mod.size) hL' (hm.obj (w := w.drew) hx.c hbC (h.ne hx.c (by decide))) hX (hl z hz).1 (hl z hz).2 (fun e => by have hXs' : w.heap.size ≤ X := hXs; have := lt_of_block h.blk; omega) hbC)
    exact hlw.mono fun e w' ⟨he, v', a1, a2⟩ => ⟨he, v', a1, ⟨(Mod.refl _ w).drew.trans a2.mod, a2.row⟩⟩
  have c0 := blk_cell hx.c 0
  have c1 := blk_cell hx.t 0
  have c2 := blk_cell hp 0
  have c3 := blk_cell hq 0
  simp at c0 c1 c2 c3
  have HD := Lib.hid hd
  clear h hb hL hx hbC hl hk hk8 hp hq hrow hT h1 h2 hd
  go_enter Try.func76, Try.ntmps76
  go_wp2_with fail
  go_region_law (first | (go_simp; go_at_call 75; refine (HD.out _ rfl).mono ?_; rintro e w1 ⟨rfl, v', hw1, hm1⟩; have HW := Lib.hid (And.intro hw1 hm1); clear hw1 hm1))
  all_goals
    go_wp2
    first | go_end0 | (simp only [Exit.inBlock, Exit.then]; refine bodyPost_ret (results_none rfl _ _ _) rfl ?_) | refine bodyPost_ret (results_none rfl _ _ _) rfl ?_
    exact ⟨rfl, v', HW.out.1, HW.out.2⟩

end Go.Proofs.Ytcnemhhbihhcfaa
