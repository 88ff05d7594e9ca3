/-
  Package cfg: the tenant's closures that code a number, both ways.
-/
import Derived.Test.YtcnemhhbihhcfaaCfgH
namespace Go.Proofs.Ytcnemhhbihhcfaa
open Go.RowKit
set_option linter.unusedVariables false

/-- Two boxes: the coder's address, the tenant's. -/
structure Boxes (w : World) (bc bt C T o : Nat) : Prop where
  c : w.heap[bc]? = some (.cells #[.pointer (some ⟨C, 0, none⟩)] 71 (0, 0))
  t : w.heap[bt]? = some (.cells #[.pointer (some ⟨T, o, none⟩)] 75 (0, 0))

set_option maxRecDepth 100000 in
theorem ten_vni_wr {w : World} {C base : Nat} {L : List UInt8} {v : Value} {bc bt T o : Nat} {z : Int} {n : Nat} (h : Wr w C base L v) (hb : base ≤ w.heap.size) (hL : L.length ≤ 90000000) (hx : Boxes w bc bt C T o)
    (hT : w.cell? ⟨T, o + 1, none⟩ = some (.int .u32 z)) (hz : IntKind.u64.wrap z = n) (h1 : T ≠ C) (h2 : v.ownBlock ≠ some T) :
    Calls Try.prog 52 #[.pointer (some ⟨bc, 0, none⟩), .pointer (some ⟨bt, 0, none⟩)] w fun e w' => e = .returned (.tuple #[]) ∧ ∃ v', Wr w' C base (L ++ be 4 n) v' ∧ WMod C v w v' w' := by
  have hd : ∀ W, W = w.drew → Calls Try.prog 50 #[.pointer (some ⟨C, 0, none⟩), .int .i64 4, .pointer (some ⟨T, o + 1, none⟩)] W fun e w' => e = .returned (.tuple #[]) ∧ ∃ v', Wr w' C base (L ++ be 4 n) v' ∧ WMod C v w v' w' := by
    intro W hW
    subst hW
    exact (num_u32_wr (w := w.drew) ⟨h.blk, h.own⟩ hb 4 n (by decide) hL hT hz h1 h2).mono fun e w' ⟨he, v', a1, a2⟩ => ⟨he, v', a1, ⟨(Mod.refl _ w).drew.trans a2.mod, a2.row⟩⟩
  have c0 := blk_cell hx.c 0
  have c1 := blk_cell hx.t 0
  simp at c0 c1
  have HD := Lib.hid hd
  clear h hb hL hx hT hz h1 h2 hd
  go_enter Try.func52, Try.ntmps52
  go_wp2_with fail
  go_region_law (first | (go_simp; go_at_call 50; refine (HD.out _ rfl).mono ?_; rintro e w1 ⟨rfl, v', hw1, hm1⟩; have HW := Lib.hid (And.intro hw1 hm1); clear hw1 hm1))
  all_goals
    go_wp2
    first | go_end0 | (simp only [Exit.inBlock, Exit.then]; refine bodyPost_ret (results_none rfl _ _ _) rfl ?_) | refine bodyPost_ret (results_none rfl _ _ _) rfl ?_
    exact ⟨rfl, v', HW.out.1, HW.out.2⟩

set_option maxRecDepth 100000 in
theorem ten_vtep_wr {w : World} {C base : Nat} {L : List UInt8} {v : Value} {bc bt T o : Nat} {z : Int} {n : Nat} (h : Wr w C base L v) (hb : base ≤ w.heap.size) (hL : L.length ≤ 90000000) (hx : Boxes w bc bt C T o)
    (hT : w.cell? ⟨T, o + 10, none⟩ = some (.int .u32 z)) (hz : IntKind.u64.wrap z = n) (h1 : T ≠ C) (h2 : v.ownBlock ≠ some T) :
    Calls Try.prog 55 #[.pointer (some ⟨bc, 0, none⟩), .pointer (some ⟨bt, 0, none⟩)] w fun e w' => e = .returned (.tuple #[]) ∧ ∃ v', Wr w' C base (L ++ be 4 n) v' ∧ WMod C v w v' w' := by
  have hd : ∀ W, W = w.drew → Calls Try.prog 50 #[.pointer (some ⟨C, 0, none⟩), .int .i64 4, .pointer (some ⟨T, o + 10, none⟩)] W fun e w' => e = .returned (.tuple #[]) ∧ ∃ v', Wr w' C base (L ++ be 4 n) v' ∧ WMod C v w v' w' := by
    intro W hW
    subst hW
    exact (num_u32_wr (w := w.drew) ⟨h.blk, h.own⟩ hb 4 n (by decide) hL hT hz h1 h2).mono fun e w' ⟨he, v', a1, a2⟩ => ⟨he, v', a1, ⟨(Mod.refl _ w).drew.trans a2.mod, a2.row⟩⟩
  have c0 := blk_cell hx.c 0
  have c1 := blk_cell hx.t 0
  simp at c0 c1
  have HD := Lib.hid hd
  clear h hb hL hx hT hz h1 h2 hd
  go_enter Try.func55, Try.ntmps55
  go_wp2_with fail
  go_region_law (first | (go_simp; go_at_call 50; refine (HD.out _ rfl).mono ?_; rintro e w1 ⟨rfl, v', hw1, hm1⟩; have HW := Lib.hid (And.intro hw1 hm1); clear hw1 hm1))
  all_goals
    go_wp2
    first | go_end0 | (simp only [Exit.inBlock, Exit.then]; refine bodyPost_ret (results_none rfl _ _ _) rfl ?_) | refine bodyPost_ret (results_none rfl _ _ _) rfl ?_
    exact ⟨rfl, v', HW.out.1, HW.out.2⟩

set_option maxRecDepth 100000 in
theorem ten_lo_wr {w : World} {C base : Nat} {L : List UInt8} {v : Value} {bc bt T o : Nat} {z : Int} {n : Nat} (h : Wr w C base L v) (hb : base ≤ w.heap.size) (hL : L.length ≤ 90000000) (hx : Boxes w bc bt C T o)
    (hT : w.cell? ⟨T, o + 24, none⟩ = some (.int .u16 z)) (hz : IntKind.u64.wrap z = n) (h1 : T ≠ C) (h2 : v.ownBlock ≠ some T) :
    Calls Try.prog 58 #[.pointer (some ⟨bc, 0, none⟩), .pointer (some ⟨bt, 0, none⟩)] w fun e w' => e = .returned (.tuple #[]) ∧ ∃ v', Wr w' C base (L ++ be 2 n) v' ∧ WMod C v w v' w' := by
  have hd : ∀ W, W = w.drew → Calls Try.prog 59 #[.pointer (some ⟨C, 0, none⟩), .int .i64 2, .pointer (some ⟨T, o + 24, none⟩)] W fun e w' => e = .returned (.tuple #[]) ∧ ∃ v', Wr w' C base (L ++ be 2 n) v' ∧ WMod C v w v' w' := by
    intro W hW
    subst hW
    exact (num_u16_wr (w := w.drew) ⟨h.blk, h.own⟩ hb 2 n (by decide) hL hT hz h1 h2).mono fun e w' ⟨he, v', a1, a2⟩ => ⟨he, v', a1, ⟨(Mod.refl _ w).drew.trans a2.mod, a2.row⟩⟩
  have c0 := blk_cell hx.c 0
  have c1 := blk_cell hx.t 0
  simp at c0 c1
  have HD := Lib.hid hd
  clear h hb hL hx hT hz h1 h2 hd
  go_enter Try.func58, Try.ntmps58
  go_wp2_with fail
  go_region_law (first | (go_simp; go_at_call 59; refine (HD.out _ rfl).mono ?_; rintro e w1 ⟨rfl, v', hw1, hm1⟩; have HW := Lib.hid (And.intro hw1 hm1); clear hw1 hm1))
  all_goals
    go_wp2
    first | go_end0 | (simp only [Exit.inBlock, Exit.then]; refine bodyPost_ret (results_none rfl _ _ _) rfl ?_) | refine bodyPost_ret (results_none rfl _ _ _) rfl ?_
    exact ⟨rfl, v', HW.out.1, HW.out.2⟩

set_option maxRecDepth 100000 in
theorem ten_hi_wr {w : World} {C base : Nat} {L : List UInt8} {v : Value} {bc bt T o : Nat} {z : Int} {n : Nat} (h : Wr w C base L v) (hb : base ≤ w.heap.size) (hL : L.length ≤ 90000000) (hx : Boxes w bc bt C T o)
    (hT : w.cell? ⟨T, o + 25, none⟩ = some (.int .u16 z)) (hz : IntKind.u64.wrap z = n) (h1 : T ≠ C) (h2 : v.ownBlock ≠ some T) :
    Calls Try.prog 60 #[.pointer (some ⟨bc, 0, none⟩), .pointer (some ⟨bt, 0, none⟩)] w fun e w' => e = .returned (.tuple #[]) ∧ ∃ v', Wr w' C base (L ++ be 2 n) v' ∧ WMod C v w v' w' := by
  have hd : ∀ W, W = w.drew → Calls Try.prog 59 #[.pointer (some ⟨C, 0, none⟩), .int .i64 2, .pointer (some ⟨T, o + 25, none⟩)] W fun e w' => e = .returned (.tuple #[]) ∧ ∃ v', Wr w' C base (L ++ be 2 n) v' ∧ WMod C v w v' w' := by
    intro W hW
    subst hW
    exact (num_u16_wr (w := w.drew) ⟨h.blk, h.own⟩ hb 2 n (by decide) hL hT hz h1 h2).mono fun e w' ⟨he, v', a1, a2⟩ => ⟨he, v', a1, ⟨(Mod.refl _ w).drew.trans a2.mod, a2.row⟩⟩
  have c0 := blk_cell hx.c 0
  have c1 := blk_cell hx.t 0
  simp at c0 c1
  have HD := Lib.hid hd
  clear h hb hL hx hT hz h1 h2 hd
  go_enter Try.func60, Try.ntmps60
  go_wp2_with fail
  go_region_law (first | (go_simp; go_at_call 59; refine (HD.out _ rfl).mono ?_; rintro e w1 ⟨rfl, v', hw1, hm1⟩; have HW := Lib.hid (And.intro hw1 hm1); clear hw1 hm1))
  all_goals
    go_wp2
    first | go_end0 | (simp only [Exit.inBlock, Exit.then]; refine bodyPost_ret (results_none rfl _ _ _) rfl ?_) | refine bodyPost_ret (results_none rfl _ _ _) rfl ?_
    exact ⟨rfl, v', HW.out.1, HW.out.2⟩

set_option maxRecDepth 100000 in
theorem ten_filter_wr {w : World} {C base : Nat} {L : List UInt8} {v : Value} {bc bt T o : Nat} {z : Int} {n : Nat} (h : Wr w C base L v) (hb : base ≤ w.heap.size) (hL : L.length ≤ 90000000) (hx : Boxes w bc bt C T o)
    (hT : w.cell? ⟨T, o + 26, none⟩ = some (.int .i64 z)) (hz : IntKind.u64.wrap z = n) (h1 : T ≠ C) (h2 : v.ownBlock ≠ some T) :
    Calls Try.prog 61 #[.pointer (some ⟨bc, 0, none⟩), .pointer (some ⟨bt, 0, none⟩)] w fun e w' => e = .returned (.tuple #[]) ∧ ∃ v', Wr w' C base (L ++ be 1 n) v' ∧ WMod C v w v' w' := by
  have hd : ∀ W, W = w.drew → Calls Try.prog 62 #[.pointer (some ⟨C, 0, none⟩), .int .i64 1, .pointer (some ⟨T, o + 26, none⟩)] W fun e w' => e = .returned (.tuple #[]) ∧ ∃ v', Wr w' C base (L ++ be 1 n) v' ∧ WMod C v w v' w' := by
    intro W hW
    subst hW
    exact (num_i64_wr (w := w.drew) ⟨h.blk, h.own⟩ hb 1 n (by decide) hL hT hz h1 h2).mono fun e w' ⟨he, v', a1, a2⟩ => ⟨he, v', a1, ⟨(Mod.refl _ w).drew.trans a2.mod, a2.row⟩⟩
  have c0 := blk_cell hx.c 0
  have c1 := blk_cell hx.t 0
  simp at c0 c1
  have HD := Lib.hid hd
  clear h hb hL hx hT hz h1 h2 hd
  go_enter Try.func61, Try.ntmps61
  go_wp2_with fail
  go_region_law (first | (go_simp; go_at_call 62; refine (HD.out _ rfl).mono ?_; rintro e w1 ⟨rfl, v', hw1, hm1⟩; have HW := Lib.hid (And.intro hw1 hm1); clear hw1 hm1))
  all_goals
    go_wp2
    first | go_end0 | (simp only [Exit.inBlock, Exit.then]; refine bodyPost_ret (results_none rfl _ _ _) rfl ?_) | refine bodyPost_ret (results_none rfl _ _ _) rfl ?_
    exact ⟨rfl, v', HW.out.1, HW.out.2⟩

set_option maxRecDepth 100000 in
theorem ten_sess_wr {w : World} {C base : Nat} {L : List UInt8} {v : Value} {bc bt T o : Nat} {z : Int} {n : Nat} (h : Wr w C base L v) (hb : base ≤ w.heap.size) (hL : L.length ≤ 90000000) (hx : Boxes w bc bt C T o)
    (hT : w.cell? ⟨T, o + 29, none⟩ = some (.int .i64 z)) (hz : IntKind.u64.wrap z = n) (h1 : T ≠ C) (h2 : v.ownBlock ≠ some T) :
    Calls Try.prog 63 #[.pointer (some ⟨bc, 0, none⟩), .pointer (some ⟨bt, 0, none⟩)] w fun e w' => e = .returned (.tuple #[]) ∧ ∃ v', Wr w' C base (L ++ be 2 n) v' ∧ WMod C v w v' w' := by
  have hd : ∀ W, W = w.drew → Calls Try.prog 62 #[.pointer (some ⟨C, 0, none⟩), .int .i64 2, .pointer (some ⟨T, o + 29, none⟩)] W fun e w' => e = .returned (.tuple #[]) ∧ ∃ v', Wr w' C base (L ++ be 2 n) v' ∧ WMod C v w v' w' := by
    intro W hW
    subst hW
    exact (num_i64_wr (w := w.drew) ⟨h.blk, h.own⟩ hb 2 n (by decide) hL hT hz h1 h2).mono fun e w' ⟨he, v', a1, a2⟩ => ⟨he, v', a1, ⟨(Mod.refl _ w).drew.trans a2.mod, a2.row⟩⟩
  have c0 := blk_cell hx.c 0
  have c1 := blk_cell hx.t 0
  simp at c0 c1
  have HD := Lib.hid hd
  clear h hb hL hx hT hz h1 h2 hd
  go_enter Try.func63, Try.ntmps63
  go_wp2_with fail
  go_region_law (first | (go_simp; go_at_call 62; refine (HD.out _ rfl).mono ?_; rintro e w1 ⟨rfl, v', hw1, hm1⟩; have HW := Lib.hid (And.intro hw1 hm1); clear hw1 hm1))
  all_goals
    go_wp2
    first | go_end0 | (simp only [Exit.inBlock, Exit.then]; refine bodyPost_ret (results_none rfl _ _ _) rfl ?_) | refine bodyPost_ret (results_none rfl _ _ _) rfl ?_
    exact ⟨rfl, v', HW.out.1, HW.out.2⟩

set_option maxRecDepth 100000 in
theorem ten_queue_wr {w : World} {C base : Nat} {L : List UInt8} {v : Value} {bc bt T o : Nat} {z : Int} {n : Nat} (h : Wr w C base L v) (hb : base ≤ w.heap.size) (hL : L.length ≤ 90000000) (hx : Boxes w bc bt C T o)
    (hT : w.cell? ⟨T, o + 30, none⟩ = some (.int .i64 z)) (hz : IntKind.u64.wrap z = n) (h1 : T ≠ C) (h2 : v.ownBlock ≠ some T) :
    Calls Try.prog 64 #[.pointer (some ⟨bc, 0, none⟩), .pointer (some ⟨bt, 0, none⟩)] w fun e w' => e = .returned (.tuple #[]) ∧ ∃ v', Wr w' C base (L ++ be 2 n) v' ∧ WMod C v w v' w' := by
  have hd : ∀ W, W = w.drew → Calls Try.prog 62 #[.pointer (some ⟨C, 0, none⟩), .int .i64 2, .pointer (some ⟨T, o + 30, none⟩)] W fun e w' => e = .returned (.tuple #[]) ∧ ∃ v', Wr w' C base (L ++ be 2 n) v' ∧ WMod C v w v' w' := by
    intro W hW
    subst hW
    exact (num_i64_wr (w := w.drew) ⟨h.blk, h.own⟩ hb 2 n (by decide) hL hT hz h1 h2).mono fun e w' ⟨he, v', a1, a2⟩ => ⟨he, v', a1, ⟨(Mod.refl _ w).drew.trans a2.mod, a2.row⟩⟩
  have c0 := blk_cell hx.c 0
  have c1 := blk_cell hx.t 0
  simp at c0 c1
  have HD := Lib.hid hd
  clear h hb hL hx hT hz h1 h2 hd
  go_enter Try.func64, Try.ntmps64
  go_wp2_with fail
  go_region_law (first | (go_simp; go_at_call 62; refine (HD.out _ rfl).mono ?_; rintro e w1 ⟨rfl, v', hw1, hm1⟩; have HW := Lib.hid (And.intro hw1 hm1); clear hw1 hm1))
  all_goals
    go_wp2
    first | go_end0 | (simp only [Exit.inBlock, Exit.then]; refine bodyPost_ret (results_none rfl _ _ _) rfl ?_) | refine bodyPost_ret (results_none rfl _ _ _) rfl ?_
    exact ⟨rfl, v', HW.out.1, HW.out.2⟩

set_option maxRecDepth 100000 in
theorem ten_rate_wr {w : World} {C base : Nat} {L : List UInt8} {v : Value} {bc bt T o : Nat} {z : Int} {n : Nat} (h : Wr w C base L v) (hb : base ≤ w.heap.size) (hL : L.length ≤ 90000000) (hx : Boxes w bc bt C T o)
    (hT : w.cell? ⟨T, o + 31, none⟩ = some (.int .u32 z)) (hz : IntKind.u64.wrap z = n) (h1 : T ≠ C) (h2 : v.ownBlock ≠ some T) :
    Calls Try.prog 65 #[.pointer (some ⟨bc, 0, none⟩), .pointer (some ⟨bt, 0, none⟩)] w fun e w' => e = .returned (.tuple #[]) ∧ ∃ v', Wr w' C base (L ++ be 4 n) v' ∧ WMod C v w v' w' := by
  have hd : ∀ W, W = w.drew → Calls Try.prog 50 #[.pointer (some ⟨C, 0, none⟩), .int .i64 4, .pointer (some ⟨T, o + 31, none⟩)] W fun e w' => e = .returned (.tuple #[]) ∧ ∃ v', Wr w' C base (L ++ be 4 n) v' ∧ WMod C v w v' w' := by
    intro W hW
    subst hW
    exact (num_u32_wr (w := w.drew) ⟨h.blk, h.own⟩ hb 4 n (by decide) hL hT hz h1 h2).mono fun e w' ⟨he, v', a1, a2⟩ => ⟨he, v', a1, ⟨(Mod.refl _ w).drew.trans a2.mod, a2.row⟩⟩
  have c0 := blk_cell hx.c 0
  have c1 := blk_cell hx.t 0
  simp at c0 c1
  have HD := Lib.hid hd
  clear h hb hL hx hT hz h1 h2 hd
  go_enter Try.func65, Try.ntmps65
  go_wp2_with fail
  go_region_law (first | (go_simp; go_at_call 50; refine (HD.out _ rfl).mono ?_; rintro e w1 ⟨rfl, v', hw1, hm1⟩; have HW := Lib.hid (And.intro hw1 hm1); clear hw1 hm1))
  all_goals
    go_wp2
    first | go_end0 | (simp only [Exit.inBlock, Exit.then]; refine bodyPost_ret (results_none rfl _ _ _) rfl ?_) | refine bodyPost_ret (results_none rfl _ _ _) rfl ?_
    exact ⟨rfl, v', HW.out.1, HW.out.2⟩

set_option maxRecDepth 100000 in
theorem ten_burst_wr {w : World} {C base : Nat} {L : List UInt8} {v : Value} {bc bt T o : Nat} {z : Int} {n : Nat} (h : Wr w C base L v) (hb : base ≤ w.heap.size) (hL : L.length ≤ 90000000) (hx : Boxes w bc bt C T o)
    (hT : w.cell? ⟨T, o + 32, none⟩ = some (.int .u32 z)) (hz : IntKind.u64.wrap z = n) (h1 : T ≠ C) (h2 : v.ownBlock ≠ some T) :
    Calls Try.prog 66 #[.pointer (some ⟨bc, 0, none⟩), .pointer (some ⟨bt, 0, none⟩)] w fun e w' => e = .returned (.tuple #[]) ∧ ∃ v', Wr w' C base (L ++ be 4 n) v' ∧ WMod C v w v' w' := by
  have hd : ∀ W, W = w.drew → Calls Try.prog 50 #[.pointer (some ⟨C, 0, none⟩), .int .i64 4, .pointer (some ⟨T, o + 32, none⟩)] W fun e w' => e = .returned (.tuple #[]) ∧ ∃ v', Wr w' C base (L ++ be 4 n) v' ∧ WMod C v w v' w' := by
    intro W hW
    subst hW
    exact (num_u32_wr (w := w.drew) ⟨h.blk, h.own⟩ hb 4 n (by decide) hL hT hz h1 h2).mono fun e w' ⟨he, v', a1, a2⟩ => ⟨he, v', a1, ⟨(Mod.refl _ w).drew.trans a2.mod, a2.row⟩⟩
  have c0 := blk_cell hx.c 0
  have c1 := blk_cell hx.t 0
  simp at c0 c1
  have HD := Lib.hid hd
  clear h hb hL hx hT hz h1 h2 hd
  go_enter Try.func66, Try.ntmps66
  go_wp2_with fail
  go_region_law (first | (go_simp; go_at_call 50; refine (HD.out _ rfl).mono ?_; rintro e w1 ⟨rfl, v', hw1, hm1⟩; have HW := Lib.hid (And.intro hw1 hm1); clear hw1 hm1))
  all_goals
    go_wp2
    first | go_end0 | (simp only [Exit.inBlock, Exit.then]; refine bodyPost_ret (results_none rfl _ _ _) rfl ?_) | refine bodyPost_ret (results_none rfl _ _ _) rfl ?_
    exact ⟨rfl, v', HW.out.1, HW.out.2⟩

set_option maxRecDepth 100000 in
theorem ten_vni_rd {S : Nat → Prop} {w : World} {C : Nat} {A : Option Addr} {c at_ : Nat} {sh : Bool} (B : List UInt8) (hb : w.heap[C]? = some (rdObj A B.length c at_ sh)) (hrow : RowAt S w A (bcells B)) (hat : at_ ≤ B.length) (hc : B.length ≤ c) (hB : B.length ≤ 100000000) (hS : ¬ S C) {bc bt T o : Nat} (hx : Boxes w bc bt C T o)
    {cs : Array Value} {t : TypeId} (hT : w.heap[T]? = some (.cells cs t (0, 0))) (ho : o + 1 < cs.size) (h1 : T ≠ C) :
    Calls Try.prog 52 #[.pointer (some ⟨bc, 0, none⟩), .pointer (some ⟨bt, 0, none⟩)] w fun e w' => e = .returned (.tuple #[]) ∧ w'.heap[C]? = some (rdObj A B.length c (rtake B (at_, sh) 4).2.1 (rtake B (at_, sh) 4).2.2) ∧
      w'.heap[T]? = some (.cells (cs.setIfInBounds (o + 1) (.int .u32 (beval (rtake B (at_, sh) 4).1))) t (0, 0)) ∧ Mod (fun b => b = C ∨ b = T) w w' := by
  have hd : ∀ W, W = w.drew → Calls Try.prog 50 #[.pointer (some ⟨C, 0, none⟩), .int .i64 4, .pointer (some ⟨T, o + 1, none⟩)] W fun e w' => e = .returned (.tuple #[]) ∧ w'.heap[C]? = some (rdObj A B.length c (rtake B (at_, sh) 4).2.1 (rtake B (at_, sh) 4).2.2) ∧
      w'.heap[T]? = some (.cells (cs.setIfInBounds (o + 1) (.int .u32 (beval (rtake B (at_, sh) 4).1))) t (0, 0)) ∧ Mod (fun b => b = C ∨ b = T) w w' := by
    intro W hW
    subst hW
    exact (num_u32_rd (w := w.drew) B hb (hrow.keeps (Mod.keeps (Mod.drew (Mod.refl No w)) (fun _ _ _ f => f))) hat hc hB 4 (by decide) hS hT ho h1).mono fun e w' ⟨e1, e2, e3, e4⟩ => ⟨e1, e2, e3, (Mod.refl _ w).drew.trans e4⟩
  have c0 := blk_cell hx.c 0
  have c1 := blk_cell hx.t 0
  simp at c0 c1
  obtain ⟨R, hR⟩ : ∃ R : World → Prop, R = fun w' => w'.heap[C]? = some (rdObj A B.length c (rtake B (at_, sh) 4).2.1 (rtake B (at_, sh) 4).2.2) ∧
      w'.heap[T]? = some (.cells (cs.setIfInBounds (o + 1) (.int .u32 (beval (rtake B (at_, sh) 4).1))) t (0, 0)) ∧ Mod (fun b => b = C ∨ b = T) w w' := ⟨_, rfl⟩
  have hd' : ∀ W, W = w.drew → Calls Try.prog 50 #[.pointer (some ⟨C, 0, none⟩), .int .i64 4, .pointer (some ⟨T, o + 1, none⟩)] W fun e w' => e = .returned (.tuple #[]) ∧ R w' := by
    rw [hR]; exact hd
  suffices hs : Calls Try.prog 52 #[.pointer (some ⟨bc, 0, none⟩), .pointer (some ⟨bt, 0, none⟩)] w fun e w' => e = .returned (.tuple #[]) ∧ R w' by
    rw [hR] at hs; exact hs
  have HD := Lib.hid hd'
  clear hb hrow hat hc hB hS hx hT ho hd hd' hR
  go_enter Try.func52, Try.ntmps52
  go_wp2_with fail
  go_region_law (first | (go_simp; go_at_call 50; refine (HD.out _ rfl).mono ?_; rintro e w1 ⟨rfl, hr⟩; have HW := Lib.hid hr; clear hr))
  all_goals
    go_wp2
    first | go_end0 | (simp only [Exit.inBlock, Exit.then]; refine bodyPost_ret (results_none rfl _ _ _) rfl ?_) | refine bodyPost_ret (results_none rfl _ _ _) rfl ?_
    exact ⟨rfl, HW.out⟩

set_option maxRecDepth 100000 in
theorem ten_vtep_rd {S : Nat → Prop} {w : World} {C : Nat} {A : Option Addr} {c at_ : Nat} {sh : Bool} (B : List UInt8) (hb : w.heap[C]? = some (rdObj A B.length c at_ sh)) (hrow : RowAt S w A (bcells B)) (hat : at_ ≤ B.length) (hc : B.length ≤ c) (hB : B.length ≤ 100000000) (hS : ¬ S C) {bc bt T o : Nat} (hx : Boxes w bc bt C T o)
    {cs : Array Value} {t : TypeId} (hT : w.heap[T]? = some (.cells cs t (0, 0))) (ho : o + 10 < cs.size) (h1 : T ≠ C) :
    Calls Try.prog 55 #[.pointer (some ⟨bc, 0, none⟩), .pointer (some ⟨bt, 0, none⟩)] w fun e w' => e = .returned (.tuple #[]) ∧ w'.heap[C]? = some (rdObj A B.length c (rtake B (at_, sh) 4).2.1 (rtake B (at_, sh) 4).2.2) ∧
      w'.heap[T]? = some (.cells (cs.setIfInBounds (o + 10) (.int .u32 (beval (rtake B (at_, sh) 4).1))) t (0, 0)) ∧ Mod (fun b => b = C ∨ b = T) w w' := by
  have hd : ∀ W, W = w.drew → Calls Try.prog 50 #[.pointer (some ⟨C, 0, none⟩), .int .i64 4, .pointer (some ⟨T, o + 10, none⟩)] W fun e w' => e = .returned (.tuple #[]) ∧ w'.heap[C]? = some (rdObj A B.length c (rtake B (at_, sh) 4).2.1 (rtake B (at_, sh) 4).2.2) ∧
      w'.heap[T]? = some (.cells (cs.setIfInBounds (o + 10) (.int .u32 (beval (rtake B (at_, sh) 4).1))) t (0, 0)) ∧ Mod (fun b => b = C ∨ b = T) w w' := by
    intro W hW
    subst hW
    exact (num_u32_rd (w := w.drew) B hb (hrow.keeps (Mod.keeps (Mod.drew (Mod.refl No w)) (fun _ _ _ f => f))) hat hc hB 4 (by decide) hS hT ho h1).mono fun e w' ⟨e1, e2, e3, e4⟩ => ⟨e1, e2, e3, (Mod.refl _ w).drew.trans e4⟩
  have c0 := blk_cell hx.c 0
  have c1 := blk_cell hx.t 0
  simp at c0 c1
  obtain ⟨R, hR⟩ : ∃ R : World → Prop, R = fun w' => w'.heap[C]? = some (rdObj A B.length c (rtake B (at_, sh) 4).2.1 (rtake B (at_, sh) 4).2.2) ∧
      w'.heap[T]? = some (.cells (cs.setIfInBounds (o + 10) (.int .u32 (beval (rtake B (at_, sh) 4).1))) t (0, 0)) ∧ Mod (fun b => b = C ∨ b = T) w w' := ⟨_, rfl⟩
  have hd' : ∀ W, W = w.drew → Calls Try.prog 50 #[.pointer (some ⟨C, 0, none⟩), .int .i64 4, .pointer (some ⟨T, o + 10, none⟩)] W fun e w' => e = .returned (.tuple #[]) ∧ R w' := by
    rw [hR]; exact hd
  suffices hs : Calls Try.prog 55 #[.pointer (some ⟨bc, 0, none⟩), .pointer (some ⟨bt, 0, none⟩)] w fun e w' => e = .returned (.tuple #[]) ∧ R w' by
    rw [hR] at hs; exact hs
  have HD := Lib.hid hd'
  clear hb hrow hat hc hB hS hx hT ho hd hd' hR
  go_enter Try.func55, Try.ntmps55
  go_wp2_with fail
  go_region_law (first | (go_simp; go_at_call 50; refine (HD.out _ rfl).mono ?_; rintro e w1 ⟨rfl, hr⟩; have HW := Lib.hid hr; clear hr))
  all_goals
    go_wp2
    first | go_end0 | (simp only [Exit.inBlock, Exit.then]; refine bodyPost_ret (results_none rfl _ _ _) rfl ?_) | refine bodyPost_ret (results_none rfl _ _ _) rfl ?_
    exact ⟨rfl, HW.out⟩

set_option maxRecDepth 100000 in
theorem ten_lo_rd {S : Nat → Prop} {w : World} {C : Nat} {A : Option Addr} {c at_ : Nat} {sh : Bool} (B : List UInt8) (hb : w.heap[C]? = some (rdObj A B.length c at_ sh)) (hrow : RowAt S w A (bcells B)) (hat : at_ ≤ B.length) (hc : B.length ≤ c) (hB : B.length ≤ 100000000) (hS : ¬ S C) {bc bt T o : Nat} (hx : Boxes w bc bt C T o)
    {cs : Array Value} {t : TypeId} (hT : w.heap[T]? = some (.cells cs t (0, 0))) (ho : o + 24 < cs.size) (h1 : T ≠ C) :
    Calls Try.prog 58 #[.pointer (some ⟨bc, 0, none⟩), .pointer (some ⟨bt, 0, none⟩)] w fun e w' => e = .returned (.tuple #[]) ∧ w'.heap[C]? = some (rdObj A B.length c (rtake B (at_, sh) 2).2.1 (rtake B (at_, sh) 2).2.2) ∧
      w'.heap[T]? = some (.cells (cs.setIfInBounds (o + 24) (.int .u16 (beval (rtake B (at_, sh) 2).1))) t (0, 0)) ∧ Mod (fun b => b = C ∨ b = T) w w' := by
  have hd : ∀ W, W = w.drew → Calls Try.prog 59 #[.pointer (some ⟨C, 0, none⟩), .int .i64 2, .pointer (some ⟨T, o + 24, none⟩)] W fun e w' => e = .returned (.tuple #[]) ∧ w'.heap[C]? = some (rdObj A B.length c (rtake B (at_, sh) 2).2.1 (rtake B (at_, sh) 2).2.2) ∧
      w'.heap[T]? = some (.cells (cs.setIfInBounds (o + 24) (.int .u16 (beval (rtake B (at_, sh) 2).1))) t (0, 0)) ∧ Mod (fun b => b = C ∨ b = T) w w' := by
    intro W hW
    subst hW
    exact (num_u16_rd (w := w.drew) B hb (hrow.keeps (Mod.keeps (Mod.drew (Mod.refl No w)) (fun _ _ _ f => f))) hat hc hB 2 (by decide) hS hT ho h1).mono fun e w' ⟨e1, e2, e3, e4⟩ => ⟨e1, e2, e3, (Mod.refl _ w).drew.trans e4⟩
  have c0 := blk_cell hx.c 0
  have c1 := blk_cell hx.t 0
  simp at c0 c1
  obtain ⟨R, hR⟩ : ∃ R : World → Prop, R = fun w' => w'.heap[C]? = some (rdObj A B.length c (rtake B (at_, sh) 2).2.1 (rtake B (at_, sh) 2).2.2) ∧
      w'.heap[T]? = some (.cells (cs.setIfInBounds (o + 24) (.int .u16 (beval (rtake B (at_, sh) 2).1))) t (0, 0)) ∧ Mod (fun b => b = C ∨ b = T) w w' := ⟨_, rfl⟩
  have hd' : ∀ W, W = w.drew → Calls Try.prog 59 #[.pointer (some ⟨C, 0, none⟩), .int .i64 2, .pointer (some ⟨T, o + 24, none⟩)] W fun e w' => e = .returned (.tuple #[]) ∧ R w' := by
    rw [hR]; exact hd
  suffices hs : Calls Try.prog 58 #[.pointer (some ⟨bc, 0, none⟩), .pointer (some ⟨bt, 0, none⟩)] w fun e w' => e = .returned (.tuple #[]) ∧ R w' by
    rw [hR] at hs; exact hs
  have HD := Lib.hid hd'
  clear hb hrow hat hc hB hS hx hT ho hd hd' hR
  go_enter Try.func58, Try.ntmps58
  go_wp2_with fail
  go_region_law (first | (go_simp; go_at_call 59; refine (HD.out _ rfl).mono ?_; rintro e w1 ⟨rfl, hr⟩; have HW := Lib.hid hr; clear hr))
  all_goals
    go_wp2
    first | go_end0 | (simp only [Exit.inBlock, Exit.then]; refine bodyPost_ret (results_none rfl _ _ _) rfl ?_) | refine bodyPost_ret (results_none rfl _ _ _) rfl ?_
    exact ⟨rfl, HW.out⟩

set_option maxRecDepth 100000 in
theorem ten_hi_rd {S : Nat → Prop} {w : World} {C : Nat} {A : Option Addr} {c at_ : Nat} {sh : Bool} (B : List UInt8) (hb : w.heap[C]? = some (rdObj A B.length c at_ sh)) (hrow : RowAt S w A (bcells B)) (hat : at_ ≤ B.length) (hc : B.length ≤ c) (hB : B.length ≤ 100000000) (hS : ¬ S C) {bc bt T o : Nat} (hx : Boxes w bc bt C T o)
    {cs : Array Value} {t : TypeId} (hT : w.heap[T]? = some (.cells cs t (0, 0))) (ho : o + 25 < cs.size) (h1 : T ≠ C) :
    Calls Try.prog 60 #[.pointer (some ⟨bc, 0, none⟩), .pointer (some ⟨bt, 0, none⟩)] w fun e w' => e = .returned (.tuple #[]) ∧ w'.heap[C]? = some (rdObj A B.length c (rtake B (at_, sh) 2).2.1 (rtake B (at_, sh) 2).2.2) ∧
      w'.heap[T]? = some (.cells (cs.setIfInBounds (o + 25) (.int .u16 (beval (rtake B (at_, sh) 2).1))) t (0, 0)) ∧ Mod (fun b => b = C ∨ b = T) w w' := by
  have hd : ∀ W, W = w.drew → Calls Try.prog 59 #[.pointer (some ⟨C, 0, none⟩), .int .i64 2, .pointer (some ⟨T, o + 25, none⟩)] W fun e w' => e = .returned (.tuple #[]) ∧ w'.heap[C]? = some (rdObj A B.length c (rtake B (at_, sh) 2).2.1 (rtake B (at_, sh) 2).2.2) ∧
      w'.heap[T]? = some (.cells (cs.setIfInBounds (o + 25) (.int .u16 (beval (rtake B (at_, sh) 2).1))) t (0, 0)) ∧ Mod (fun b => b = C ∨ b = T) w w' := by
    intro W hW
    subst hW
    exact (num_u16_rd (w := w.drew) B hb (hrow.keeps (Mod.keeps (Mod.drew (Mod.refl No w)) (fun _ _ _ f => f))) hat hc hB 2 (by decide) hS hT ho h1).mono fun e w' ⟨e1, e2, e3, e4⟩ => ⟨e1, e2, e3, (Mod.refl _ w).drew.trans e4⟩
  have c0 := blk_cell hx.c 0
  have c1 := blk_cell hx.t 0
  simp at c0 c1
  obtain ⟨R, hR⟩ : ∃ R : World → Prop, R = fun w' => w'.heap[C]? = some (rdObj A B.length c (rtake B (at_, sh) 2).2.1 (rtake B (at_, sh) 2).2.2) ∧
      w'.heap[T]? = some (.cells (cs.setIfInBounds (o + 25) (.int .u16 (beval (rtake B (at_, sh) 2).1))) t (0, 0)) ∧ Mod (fun b => b = C ∨ b = T) w w' := ⟨_, rfl⟩
  have hd' : ∀ W, W = w.drew → Calls Try.prog 59 #[.pointer (some ⟨C, 0, none⟩), .int .i64 2, .pointer (some ⟨T, o + 25, none⟩)] W fun e w' => e = .returned (.tuple #[]) ∧ R w' := by
    rw [hR]; exact hd
  suffices hs : Calls Try.prog 60 #[.pointer (some ⟨bc, 0, none⟩), .pointer (some ⟨bt, 0, none⟩)] w fun e w' => e = .returned (.tuple #[]) ∧ R w' by
    rw [hR] at hs; exact hs
  have HD := Lib.hid hd'
  clear hb hrow hat hc hB hS hx hT ho hd hd' hR
  go_enter Try.func60, Try.ntmps60
  go_wp2_with fail
  go_region_law (first | (go_simp; go_at_call 59; refine (HD.out _ rfl).mono ?_; rintro e w1 ⟨rfl, hr⟩; have HW := Lib.hid hr; clear hr))
  all_goals
    go_wp2
    first | go_end0 | (simp only [Exit.inBlock, Exit.then]; refine bodyPost_ret (results_none rfl _ _ _) rfl ?_) | refine bodyPost_ret (results_none rfl _ _ _) rfl ?_
    exact ⟨rfl, HW.out⟩

set_option maxRecDepth 100000 in
theorem ten_filter_rd {S : Nat → Prop} {w : World} {C : Nat} {A : Option Addr} {c at_ : Nat} {sh : Bool} (B : List UInt8) (hb : w.heap[C]? = some (rdObj A B.length c at_ sh)) (hrow : RowAt S w A (bcells B)) (hat : at_ ≤ B.length) (hc : B.length ≤ c) (hB : B.length ≤ 100000000) (hS : ¬ S C) {bc bt T o : Nat} (hx : Boxes w bc bt C T o)
    {cs : Array Value} {t : TypeId} (hT : w.heap[T]? = some (.cells cs t (0, 0))) (ho : o + 26 < cs.size) (h1 : T ≠ C) :
    Calls Try.prog 61 #[.pointer (some ⟨bc, 0, none⟩), .pointer (some ⟨bt, 0, none⟩)] w fun e w' => e = .returned (.tuple #[]) ∧ w'.heap[C]? = some (rdObj A B.length c (rtake B (at_, sh) 1).2.1 (rtake B (at_, sh) 1).2.2) ∧
      w'.heap[T]? = some (.cells (cs.setIfInBounds (o + 26) (.int .i64 (beval (rtake B (at_, sh) 1).1))) t (0, 0)) ∧ Mod (fun b => b = C ∨ b = T) w w' := by
  have hd : ∀ W, W = w.drew → Calls Try.prog 62 #[.pointer (some ⟨C, 0, none⟩), .int .i64 1, .pointer (some ⟨T, o + 26, none⟩)] W fun e w' => e = .returned (.tuple #[]) ∧ w'.heap[C]? = some (rdObj A B.length c (rtake B (at_, sh) 1).2.1 (rtake B (at_, sh) 1).2.2) ∧
      w'.heap[T]? = some (.cells (cs.setIfInBounds (o + 26) (.int .i64 (beval (rtake B (at_, sh) 1).1))) t (0, 0)) ∧ Mod (fun b => b = C ∨ b = T) w w' := by
    intro W hW
    subst hW
    exact (num_i64_rd (w := w.drew) B hb (hrow.keeps (Mod.keeps (Mod.drew (Mod.refl No w)) (fun _ _ _ f => f))) hat hc hB 1 (by decide) hS hT ho h1).mono fun e w' ⟨e1, e2, e3, e4⟩ => ⟨e1, e2, e3, (Mod.refl _ w).drew.trans e4⟩
  have c0 := blk_cell hx.c 0
  have c1 := blk_cell hx.t 0
  simp at c0 c1
  obtain ⟨R, hR⟩ : ∃ R : World → Prop, R = fun w' => w'.heap[C]? = some (rdObj A B.length c (rtake B (at_, sh) 1).2.1 (rtake B (at_, sh) 1).2.2) ∧
      w'.heap[T]? = some (.cells (cs.setIfInBounds (o + 26) (.int .i64 (beval (rtake B (at_, sh) 1).1))) t (0, 0)) ∧ Mod (fun b => b = C ∨ b = T) w w' := ⟨_, rfl⟩
  have hd' : ∀ W, W = w.drew → Calls Try.prog 62 #[.pointer (some ⟨C, 0, none⟩), .int .i64 1, .pointer (some ⟨T, o + 26, none⟩)] W fun e w' => e = .returned (.tuple #[]) ∧ R w' := by
    rw [hR]; exact hd
  suffices hs : Calls Try.prog 61 #[.pointer (some ⟨bc, 0, none⟩), .pointer (some ⟨bt, 0, none⟩)] w fun e w' => e = .returned (.tuple #[]) ∧ R w' by
    rw [hR] at hs; exact hs
  have HD := Lib.hid hd'
  clear hb hrow hat hc hB hS hx hT ho hd hd' hR
  go_enter Try.func61, Try.ntmps61
  go_wp2_with fail
  go_region_law (first | (go_simp; go_at_call 62; refine (HD.out _ rfl).mono ?_; rintro e w1 ⟨rfl, hr⟩; have HW := Lib.hid hr; clear hr))
  all_goals
    go_wp2
    first | go_end0 | (simp only [Exit.inBlock, Exit.then]; refine bodyPost_ret (results_none rfl _ _ _) rfl ?_) | refine bodyPost_ret (results_none rfl _ _ _) rfl ?_
    exact ⟨rfl, HW.out⟩

set_option maxRecDepth 100000 in
theorem ten_sess_rd {S : Nat → Prop} {w : World} {C : Nat} {A : Option Addr} {c at_ : Nat} {sh : Bool} (B : List UInt8) (hb : w.heap[C]? = some (rdObj A B.length c at_ sh)) (hrow : RowAt S w A (bcells B)) (hat : at_ ≤ B.length) (hc : B.length ≤ c) (hB : B.length ≤ 100000000) (hS : ¬ S C) {bc bt T o : Nat} (hx : Boxes w bc bt C T o)
    {cs : Array Value} {t : TypeId} (hT : w.heap[T]? = some (.cells cs t (0, 0))) (ho : o + 29 < cs.size) (h1 : T ≠ C) :
    Calls Try.prog 63 #[.pointer (some ⟨bc, 0, none⟩), .pointer (some ⟨bt, 0, none⟩)] w fun e w' => e = .returned (.tuple #[]) ∧ w'.heap[C]? = some (rdObj A B.length c (rtake B (at_, sh) 2).2.1 (rtake B (at_, sh) 2).2.2) ∧
      w'.heap[T]? = some (.cells (cs.setIfInBounds (o + 29) (.int .i64 (beval (rtake B (at_, sh) 2).1))) t (0, 0)) ∧ Mod (fun b => b = C ∨ b = T) w w' := by
  have hd : ∀ W, W = w.drew → Calls Try.prog 62 #[.pointer (some ⟨C, 0, none⟩), .int .i64 2, .pointer (some ⟨T, o + 29, none⟩)] W fun e w' => e = .returned (.tuple #[]) ∧ w'.heap[C]? = some (rdObj A B.length c (rtake B (at_, sh) 2).2.1 (rtake B (at_, sh) 2).2.2) ∧
      w'.heap[T]? = some (.cells (cs.setIfInBounds (o + 29) (.int .i64 (beval (rtake B (at_, sh) 2).1))) t (0, 0)) ∧ Mod (fun b => b = C ∨ b = T) w w' := by
    intro W hW
    subst hW
    exact (num_i64_rd (w := w.drew) B hb (hrow.keeps (Mod.keeps (Mod.drew (Mod.refl No w)) (fun _ _ _ f => f))) hat hc hB 2 (by decide) hS hT ho h1).mono fun e w' ⟨e1, e2, e3, e4⟩ => ⟨e1, e2, e3, (Mod.refl _ w).drew.trans e4⟩
  have c0 := blk_cell hx.c 0
  have c1 := blk_cell hx.t 0
  simp at c0 c1
  obtain ⟨R, hR⟩ : ∃ R : World → Prop, R = fun w' => w'.heap[C]? = some (rdObj A B.length c (rtake B (at_, sh) 2).2.1 (rtake B (at_, sh) 2).2.2) ∧
      w'.heap[T]? = some (.cells (cs.setIfInBounds (o + 29) (.int .i64 (beval (rtake B (at_, sh) 2).1))) t (0, 0)) ∧ Mod (fun b => b = C ∨ b = T) w w' := ⟨_, rfl⟩
  have hd' : ∀ W, W = w.drew → Calls Try.prog 62 #[.pointer (some ⟨C, 0, none⟩), .int .i64 2, .pointer (some ⟨T, o + 29, none⟩)] W fun e w' => e = .returned (.tuple #[]) ∧ R w' := by
    rw [hR]; exact hd
  suffices hs : Calls Try.prog 63 #[.pointer (some ⟨bc, 0, none⟩), .pointer (some ⟨bt, 0, none⟩)] w fun e w' => e = .returned (.tuple #[]) ∧ R w' by
    rw [hR] at hs; exact hs
  have HD := Lib.hid hd'
  clear hb hrow hat hc hB hS hx hT ho hd hd' hR
  go_enter Try.func63, Try.ntmps63
  go_wp2_with fail
  go_region_law (first | (go_simp; go_at_call 62; refine (HD.out _ rfl).mono ?_; rintro e w1 ⟨rfl, hr⟩; have HW := Lib.hid hr; clear hr))
  all_goals
    go_wp2
    first | go_end0 | (simp only [Exit.inBlock, Exit.then]; refine bodyPost_ret (results_none rfl _ _ _) rfl ?_) | refine bodyPost_ret (results_none rfl _ _ _) rfl ?_
    exact ⟨rfl, HW.out⟩

set_option maxRecDepth 100000 in
theorem ten_queue_rd {S : Nat → Prop} {w : World} {C : Nat} {A : Option Addr} {c at_ : Nat} {sh : Bool} (B : List UInt8) (hb : w.heap[C]? = some (rdObj A B.length c at_ sh)) (hrow : RowAt S w A (bcells B)) (hat : at_ ≤ B.length) (hc : B.length ≤ c) (hB : B.length ≤ 100000000) (hS : ¬ S C) {bc bt T o : Nat} (hx : Boxes w bc bt C T o)
    {cs : Array Value} {t : TypeId} (hT : w.heap[T]? = some (.cells cs t (0, 0))) (ho : o + 30 < cs.size) (h1 : T ≠ C) :
    Calls Try.prog 64 #[.pointer (some ⟨bc, 0, none⟩), .pointer (some ⟨bt, 0, none⟩)] w fun e w' => e = .returned (.tuple #[]) ∧ w'.heap[C]? = some (rdObj A B.length c (rtake B (at_, sh) 2).2.1 (rtake B (at_, sh) 2).2.2) ∧
      w'.heap[T]? = some (.cells (cs.setIfInBounds (o + 30) (.int .i64 (beval (rtake B (at_, sh) 2).1))) t (0, 0)) ∧ Mod (fun b => b = C ∨ b = T) w w' := by
  have hd : ∀ W, W = w.drew → Calls Try.prog 62 #[.pointer (some ⟨C, 0, none⟩), .int .i64 2, .pointer (some ⟨T, o + 30, none⟩)] W fun e w' => e = .returned (.tuple #[]) ∧ w'.heap[C]? = some (rdObj A B.length c (rtake B (at_, sh) 2).2.1 (rtake B (at_, sh) 2).2.2) ∧
      w'.heap[T]? = some (.cells (cs.setIfInBounds (o + 30) (.int .i64 (beval (rtake B (at_, sh) 2).1))) t (0, 0)) ∧ Mod (fun b => b = C ∨ b = T) w w' := by
    intro W hW
    subst hW
    exact (num_i64_rd (w := w.drew) B hb (hrow.keeps (Mod.keeps (Mod.drew (Mod.refl No w)) (fun _ _ _ f => f))) hat hc hB 2 (by decide) hS hT ho h1).mono fun e w' ⟨e1, e2, e3, e4⟩ => ⟨e1, e2, e3, (Mod.refl _ w).drew.trans e4⟩
  have c0 := blk_cell hx.c 0
  have c1 := blk_cell hx.t 0
  simp at c0 c1
  obtain ⟨R, hR⟩ : ∃ R : World → Prop, R = fun w' => w'.heap[C]? = some (rdObj A B.length c (rtake B (at_, sh) 2).2.1 (rtake B (at_, sh) 2).2.2) ∧
      w'.heap[T]? = some (.cells (cs.setIfInBounds (o + 30) (.int .i64 (beval (rtake B (at_, sh) 2).1))) t (0, 0)) ∧ Mod (fun b => b = C ∨ b = T) w w' := ⟨_, rfl⟩
  have hd' : ∀ W, W = w.drew → Calls Try.prog 62 #[.pointer (some ⟨C, 0, none⟩), .int .i64 2, .pointer (some ⟨T, o + 30, none⟩)] W fun e w' => e = .returned (.tuple #[]) ∧ R w' := by
    rw [hR]; exact hd
  suffices hs : Calls Try.prog 64 #[.pointer (some ⟨bc, 0, none⟩), .pointer (some ⟨bt, 0, none⟩)] w fun e w' => e = .returned (.tuple #[]) ∧ R w' by
    rw [hR] at hs; exact hs
  have HD := Lib.hid hd'
  clear hb hrow hat hc hB hS hx hT ho hd hd' hR
  go_enter Try.func64, Try.ntmps64
  go_wp2_with fail
  go_region_law (first | (go_simp; go_at_call 62; refine (HD.out _ rfl).mono ?_; rintro e w1 ⟨rfl, hr⟩; have HW := Lib.hid hr; clear hr))
  all_goals
    go_wp2
    first | go_end0 | (simp only [Exit.inBlock, Exit.then]; refine bodyPost_ret (results_none rfl _ _ _) rfl ?_) | refine bodyPost_ret (results_none rfl _ _ _) rfl ?_
    exact ⟨rfl, HW.out⟩

set_option maxRecDepth 100000 in
theorem ten_rate_rd {S : Nat → Prop} {w : World} {C : Nat} {A : Option Addr} {c at_ : Nat} {sh : Bool} (B : List UInt8) (hb : w.heap[C]? = some (rdObj A B.length c at_ sh)) (hrow : RowAt S w A (bcells B)) (hat : at_ ≤ B.length) (hc : B.length ≤ c) (hB : B.length ≤ 100000000) (hS : ¬ S C) {bc bt T o : Nat} (hx : Boxes w bc bt C T o)
    {cs : Array Value} {t : TypeId} (hT : w.heap[T]? = some (.cells cs t (0, 0))) (ho : o + 31 < cs.size) (h1 : T ≠ C) :
    Calls Try.prog 65 #[.pointer (some ⟨bc, 0, none⟩), .pointer (some ⟨bt, 0, none⟩)] w fun e w' => e = .returned (.tuple #[]) ∧ w'.heap[C]? = some (rdObj A B.length c (rtake B (at_, sh) 4).2.1 (rtake B (at_, sh) 4).2.2) ∧
      w'.heap[T]? = some (.cells (cs.setIfInBounds (o + 31) (.int .u32 (beval (rtake B (at_, sh) 4).1))) t (0, 0)) ∧ Mod (fun b => b = C ∨ b = T) w w' := by
  have hd : ∀ W, W = w.drew → Calls Try.prog 50 #[.pointer (some ⟨C, 0, none⟩), .int .i64 4, .pointer (some ⟨T, o + 31, none⟩)] W fun e w' => e = .returned (.tuple #[]) ∧ w'.heap[C]? = some (rdObj A B.length c (rtake B (at_, sh) 4).2.1 (rtake B (at_, sh) 4).2.2) ∧
      w'.heap[T]? = some (.cells (cs.setIfInBounds (o + 31) (.int .u32 (beval (rtake B (at_, sh) 4).1))) t (0, 0)) ∧ Mod (fun b => b = C ∨ b = T) w w' := by
    intro W hW
    subst hW
    exact (num_u32_rd (w := w.drew) B hb (hrow.keeps (Mod.keeps (Mod.drew (Mod.refl No w)) (fun _ _ _ f => f))) hat hc hB 4 (by decide) hS hT ho h1).mono fun e w' ⟨e1, e2, e3, e4⟩ => ⟨e1, e2, e3, (Mod.refl _ w).drew.trans e4⟩
  have c0 := blk_cell hx.c 0
  have c1 := blk_cell hx.t 0
  simp at c0 c1
  obtain ⟨R, hR⟩ : ∃ R : World → Prop, R = fun w' => w'.heap[C]? = some (rdObj A B.length c (rtake B (at_, sh) 4).2.1 (rtake B (at_, sh) 4).2.2) ∧
      w'.heap[T]? = some (.cells (cs.setIfInBounds (o + 31) (.int .u32 (beval (rtake B (at_, sh) 4).1))) t (0, 0)) ∧ Mod (fun b => b = C ∨ b = T) w w' := ⟨_, rfl⟩
  have hd' : ∀ W, W = w.drew → Calls Try.prog 50 #[.pointer (some ⟨C, 0, none⟩), .int .i64 4, .pointer (some ⟨T, o + 31, none⟩)] W fun e w' => e = .returned (.tuple #[]) ∧ R w' := by
    rw [hR]; exact hd
  suffices hs : Calls Try.prog 65 #[.pointer (some ⟨bc, 0, none⟩), .pointer (some ⟨bt, 0, none⟩)] w fun e w' => e = .returned (.tuple #[]) ∧ R w' by
    rw [hR] at hs; exact hs
  have HD := Lib.hid hd'
  clear hb hrow hat hc hB hS hx hT ho hd hd' hR
  go_enter Try.func65, Try.ntmps65
  go_wp2_with fail
  go_region_law (first | (go_simp; go_at_call 50; refine (HD.out _ rfl).mono ?_; rintro e w1 ⟨rfl, hr⟩; have HW := Lib.hid hr; clear hr))
  all_goals
    go_wp2
    first | go_end0 | (simp only [Exit.inBlock, Exit.then]; refine bodyPost_ret (results_none rfl _ _ _) rfl ?_) | refine bodyPost_ret (results_none rfl _ _ _) rfl ?_
    exact ⟨rfl, HW.out⟩

set_option maxRecDepth 100000 in
theorem ten_burst_rd {S : Nat → Prop} {w : World} {C : Nat} {A : Option Addr} {c at_ : Nat} {sh : Bool} (B : List UInt8) (hb : w.heap[C]? = some (rdObj A B.length c at_ sh)) (hrow : RowAt S w A (bcells B)) (hat : at_ ≤ B.length) (hc : B.length ≤ c) (hB : B.length ≤ 100000000) (hS : ¬ S C) {bc bt T o : Nat} (hx : Boxes w bc bt C T o)
    {cs : Array Value} {t : TypeId} (hT : w.heap[T]? = some (.cells cs t (0, 0))) (ho : o + 32 < cs.size) (h1 : T ≠ C) :
    Calls Try.prog 66 #[.pointer (some ⟨bc, 0, none⟩), .pointer (some ⟨bt, 0, none⟩)] w fun e w' => e = .returned (.tuple #[]) ∧ w'.heap[C]? = some (rdObj A B.length c (rtake B (at_, sh) 4).2.1 (rtake B (at_, sh) 4).2.2) ∧
      w'.heap[T]? = some (.cells (cs.setIfInBounds (o + 32) (.int .u32 (beval (rtake B (at_, sh) 4).1))) t (0, 0)) ∧ Mod (fun b => b = C ∨ b = T) w w' := by
  have hd : ∀ W, W = w.drew → Calls Try.prog 50 #[.pointer (some ⟨C, 0, none⟩), .int .i64 4, .pointer (some ⟨T, o + 32, none⟩)] W fun e w' => e = .returned (.tuple #[]) ∧ w'.heap[C]? = some (rdObj A B.length c (rtake B (at_, sh) 4).2.1 (rtake B (at_, sh) 4).2.2) ∧
      w'.heap[T]? = some (.cells (cs.setIfInBounds (o + 32) (.int .u32 (beval (rtake B (at_, sh) 4).1))) t (0, 0)) ∧ Mod (fun b => b = C ∨ b = T) w w' := by
    intro W hW
    subst hW
    exact (num_u32_rd (w := w.drew) B hb (hrow.keeps (Mod.keeps (Mod.drew (Mod.refl No w)) (fun _ _ _ f => f))) hat hc hB 4 (by decide) hS hT ho h1).mono fun e w' ⟨e1, e2, e3, e4⟩ => ⟨e1, e2, e3, (Mod.refl _ w).drew.trans e4⟩
  have c0 := blk_cell hx.c 0
  have c1 := blk_cell hx.t 0
  simp at c0 c1
  obtain ⟨R, hR⟩ : ∃ R : World → Prop, R = fun w' => w'.heap[C]? = some (rdObj A B.length c (rtake B (at_, sh) 4).2.1 (rtake B (at_, sh) 4).2.2) ∧
      w'.heap[T]? = some (.cells (cs.setIfInBounds (o + 32) (.int .u32 (beval (rtake B (at_, sh) 4).1))) t (0, 0)) ∧ Mod (fun b => b = C ∨ b = T) w w' := ⟨_, rfl⟩
  have hd' : ∀ W, W = w.drew → Calls Try.prog 50 #[.pointer (some ⟨C, 0, none⟩), .int .i64 4, .pointer (some ⟨T, o + 32, none⟩)] W fun e w' => e = .returned (.tuple #[]) ∧ R w' := by
    rw [hR]; exact hd
  suffices hs : Calls Try.prog 66 #[.pointer (some ⟨bc, 0, none⟩), .pointer (some ⟨bt, 0, none⟩)] w fun e w' => e = .returned (.tuple #[]) ∧ R w' by
    rw [hR] at hs; exact hs
  have HD := Lib.hid hd'
  clear hb hrow hat hc hB hS hx hT ho hd hd' hR
  go_enter Try.func66, Try.ntmps66
  go_wp2_with fail
  go_region_law (first | (go_simp; go_at_call 50; refine (HD.out _ rfl).mono ?_; rintro e w1 ⟨rfl, hr⟩; have HW := Lib.hid hr; clear hr))
  all_goals
    go_wp2
    first | go_end0 | (simp only [Exit.inBlock, Exit.then]; refine bodyPost_ret (results_none rfl _ _ _) rfl ?_) | refine bodyPost_ret (results_none rfl _ _ _) rfl ?_
    exact ⟨rfl, HW.out⟩

end Go.Proofs.Ytcnemhhbihhcfaa
