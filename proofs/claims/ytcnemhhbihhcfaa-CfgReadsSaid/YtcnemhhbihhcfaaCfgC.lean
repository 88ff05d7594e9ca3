/-
  Package cfg, third part: numbers of a type, both ways.
-/
import Derived.Test.YtcnemhhbihhcfaaCfgB
namespace Go.Proofs.Ytcnemhhbihhcfaa
open Go.RowKit
set_option linter.unusedVariables false

theorem heap_setCell_ne {w : World} {b : Nat} (p : Addr) (v : Value) (h : b ≠ p.block) : (w.setCell p v).heap[b]? = w.heap[b]? := Below.heap_setCell _ _ _ _ h
theorem Mod.sub {F : Nat → Prop} {a b : World} (h : Mod F a b) {c : World} (k : Mod No b c) : Mod F a c := h.trans (k.mono (fun _ f => f.elim))

/-! ### u32 -/
theorem get_u32 {F : Nat → Prop} {w : World} {bx T o : Nat} {n : Nat} {z : Int} (hbx : w.heap[bx]? = some (.cells #[.pointer (some ⟨T, o, none⟩)] 96 (0, 0))) (hT : w.cell? ⟨T, o, none⟩ = some (.int .u32 z)) (hz : IntKind.u64.wrap z = n) (h1 : ¬ F bx) (h2 : ¬ F T) :
    Gets F 89 (.pointer (some ⟨bx, 0, none⟩)) n w := by
  refine ⟨fun a W => by go_simp, fun W hm => ?_⟩
  have c1 := blk_cell (hm.obj hbx h1) 0
  have c2 := hm.cell hT h2
  simp at c1
  clear hbx hT hm
  go_enter Try.func89, Try.ntmps89
  go_wp2
  go_ret
  exact ⟨by simp, Mod.refl _ _⟩
theorem set_u32 {w : World} {bx T o : Nat} {cs : Array Value} {t : TypeId} {n : Nat} (hbx : w.heap[bx]? = some (.cells #[.pointer (some ⟨T, o, none⟩)] 96 (0, 0))) (hT : w.heap[T]? = some (.cells cs t (0, 0))) (ho : o < cs.size) (hn : n < 4294967296) :
    Calls Try.prog 90 #[.int .u64 n, .pointer (some ⟨bx, 0, none⟩)] w fun e w' => e = .returned (.tuple #[]) ∧ w' = w.setCell ⟨T, o, none⟩ (.int .u32 n) := by
  have c1 := blk_cell hbx 0
  have c2 := blk_cell hT o
  have f2 := blk_free hT o
  rw [Array.getElem?_eq_getElem ho] at c2
  simp at c1
  have hw : IntKind.u32.wrap (n : Int) = n := by simp [IntKind.wrap, IntKind.bits, IntKind.signed]; omega
  clear hbx hT
  go_enter Try.func90, Try.ntmps90
  go_wp2
  go_end0
  exact ⟨rfl, rfl⟩
theorem num_u32_wr {w : World} {C base : Nat} {L : List UInt8} {v : Value} (h : Wr w C base L v) (hb : base ≤ w.heap.size) (size n : Nat) (hs : size ≤ 8) (hL : L.length ≤ 90000000) {T o : Nat} {z : Int} (hT : w.cell? ⟨T, o, none⟩ = some (.int .u32 z)) (hz : IntKind.u64.wrap z = n) (h1 : T ≠ C) (h2 : v.ownBlock ≠ some T) :
    Calls Try.prog 50 #[.pointer (some ⟨C, 0, none⟩), .int .i64 size, .pointer (some ⟨T, o, none⟩)] w fun e w' => e = .returned (.tuple #[]) ∧ ∃ v', Wr w' C base (L ++ be size n) v' ∧ WMod C v w v' w' := by
  have hlt := lt_of_block h.blk
  have hTl : T < w.heap.size := World.block_lt_of_cell? _ _ hT
  have hm : Mod No w (w.alloc (.cells #[.pointer (some ⟨T, o, none⟩)] 96)) := (Mod.refl _ _).alloc _
  have hw : Wr (w.alloc (.cells #[.pointer (some ⟨T, o, none⟩)] 96)) C base L v := ⟨hm.obj h.blk id, own_mod h.own hm (fun _ _ f => f)⟩
  have H := Lib.hid (number_wr hw (by simp; omega) size n hs hL 89 (.pointer (some ⟨w.heap.size, 0, none⟩)) (.func (.func 90) #[] #[.pointer (some ⟨w.heap.size, 0, none⟩)])
    (get_u32 (T := T) (o := o) (at10 w _) (hm.cell hT id) hz (by intro f; rcases f with f | f | f; omega; have := (h.lt f).2; omega; simp at f; omega) (by intro f; rcases f with f | f | f; exact h1 f; exact h2 f; simp at f; omega)))
  have HM := Lib.hid hm
  clear h hm hw hT
  go_enter Try.func50, Try.ntmps50
  go_wp2_with (first | (go_at_call 88; refine H.out.mono ?_; rintro e w1 ⟨rfl, v', hw1, hm1⟩; have HW := Lib.hid (And.intro hw1 hm1); clear hw1 hm1) | fail)
  go_end0
  obtain ⟨hw1, hm1⟩ := HW.out
  exact ⟨rfl, v', hw1, ⟨(HM.out.mono (fun _ f => f.elim)).trans hm1.mod, fun g hg => by
    rcases hm1.row g hg with h | h
    · exact .inl h
    · right; simp at h; omega⟩⟩
theorem num_u32_rd {S : Nat → Prop} {w : World} {C : Nat} {A : Option Addr} {c at_ : Nat} {sh : Bool} (B : List UInt8) (hb : w.heap[C]? = some (rdObj A B.length c at_ sh)) (hrow : RowAt S w A (bcells B)) (hat : at_ ≤ B.length) (hc : B.length ≤ c) (hB : B.length ≤ 100000000) (size : Nat) (hk : size ≤ 4) (hS : ¬ S C)
    {T o : Nat} {cs : Array Value} {t : TypeId} (hT : w.heap[T]? = some (.cells cs t (0, 0))) (ho : o < cs.size) (h1 : T ≠ C) :
    Calls Try.prog 50 #[.pointer (some ⟨C, 0, none⟩), .int .i64 size, .pointer (some ⟨T, o, none⟩)] w fun e w' => e = .returned (.tuple #[]) ∧ w'.heap[C]? = some (rdObj A B.length c (rtake B (at_, sh) size).2.1 (rtake B (at_, sh) size).2.2) ∧
      w'.heap[T]? = some (.cells (cs.setIfInBounds o (.int .u32 (beval (rtake B (at_, sh) size).1))) t (0, 0)) ∧ Mod (fun b => b = C ∨ b = T) w w' := by
  have hlt := lt_of_block hb
  have hTl := lt_of_block hT
  have hm : Mod No w (w.alloc (.cells #[.pointer (some ⟨T, o, none⟩)] 96)) := (Mod.refl _ _).alloc _
  have hnl : beval (rtake B (at_, sh) size).1 < 4294967296 := by
    have h1 := beval_lt (rtake B (at_, sh) size).1
    rw [rtake_length] at h1
    exact Nat.lt_of_lt_of_le h1 (by rw [show (4294967296 : Nat) = 256 ^ 4 * 1 from by decide]; exact Nat.le_trans (Nat.pow_le_pow_right (by omega) hk) (Nat.le_mul_of_pos_right _ (by decide)))
  have H := Lib.hid (number_rd B (hm.obj hb id) (S := fun b => S b ∧ b < w.heap.size) ((hrow.mono (fun b hb hs => ⟨hs, hb⟩)).keeps (hm.keeps (fun _ _ _ f => f))) hat hc hB size (by omega) (fun f => hS f.1) (.func (.func 89) #[] #[.pointer (some ⟨w.heap.size, 0, none⟩)]) 90 (.pointer (some ⟨w.heap.size, 0, none⟩)) (fun a W => by go_simp)
    (fun w' => w'.heap[C]? = some (rdObj A B.length c (rtake B (at_, sh) size).2.1 (rtake B (at_, sh) size).2.2) ∧ w'.heap[T]? = some (.cells (cs.setIfInBounds o (.int .u32 (beval (rtake B (at_, sh) size).1))) t (0, 0)) ∧ Mod (fun b => b = C ∨ b = T) w w')
    (fun w1 hC hm1 => (set_u32 (hm1.obj (at10 w _) (by omega)) (hm1.obj (hm.obj hT id) h1) ho hnl).mono (fun e w2 ⟨h2, h3⟩ => by
      subst h3
      refine ⟨h2, ?_, heap_setCell_row (hm1.obj (hm.obj hT id) h1) _, ?_⟩
      · rw [heap_setCell_ne _ _ (by simpa using fun e => h1 e.symm)]; exact hC
      · exact Mod.setCell ((hm.mono (fun _ f => f.elim)).trans (hm1.mono (fun _ h => .inl h))) (.inr (.inr rfl)) _)))
  clear hb hrow hT hm hnl
  go_enter Try.func50, Try.ntmps50
  go_wp2_with (first | (go_at_call 88; refine H.out.mono ?_; rintro e w1 ⟨rfl, hr⟩; have HW := Lib.hid hr; clear hr) | fail)
  go_end0
  exact ⟨rfl, HW.out⟩

/-! ### u16 -/
theorem get_u16 {F : Nat → Prop} {w : World} {bx T o : Nat} {n : Nat} {z : Int} (hbx : w.heap[bx]? = some (.cells #[.pointer (some ⟨T, o, none⟩)] 100 (0, 0))) (hT : w.cell? ⟨T, o, none⟩ = some (.int .u16 z)) (hz : IntKind.u64.wrap z = n) (h1 : ¬ F bx) (h2 : ¬ F T) :
    Gets F 92 (.pointer (some ⟨bx, 0, none⟩)) n w := by
  refine ⟨fun a W => by go_simp, fun W hm => ?_⟩
  have c1 := blk_cell (hm.obj hbx h1) 0
  have c2 := hm.cell hT h2
  simp at c1
  clear hbx hT hm
  go_enter Try.func92, Try.ntmps92
  go_wp2
  go_ret
  exact ⟨by simp, Mod.refl _ _⟩
theorem set_u16 {w : World} {bx T o : Nat} {cs : Array Value} {t : TypeId} {n : Nat} (hbx : w.heap[bx]? = some (.cells #[.pointer (some ⟨T, o, none⟩)] 100 (0, 0))) (hT : w.heap[T]? = some (.cells cs t (0, 0))) (ho : o < cs.size) (hn : n < 65536) :
    Calls Try.prog 93 #[.int .u64 n, .pointer (some ⟨bx, 0, none⟩)] w fun e w' => e = .returned (.tuple #[]) ∧ w' = w.setCell ⟨T, o, none⟩ (.int .u16 n) := by
  have c1 := blk_cell hbx 0
  have c2 := blk_cell hT o
  have f2 := blk_free hT o
  rw [Array.getElem?_eq_getElem ho] at c2
  simp at c1
  have hw : IntKind.u16.wrap (n : Int) = n := by simp [IntKind.wrap, IntKind.bits, IntKind.signed]; omega
  clear hbx hT
  go_enter Try.func93, Try.ntmps93
  go_wp2
  go_end0
  exact ⟨rfl, rfl⟩
theorem num_u16_wr {w : World} {C base : Nat} {L : List UInt8} {v : Value} (h : Wr w C base L v) (hb : base ≤ w.heap.size) (size n : Nat) (hs : size ≤ 8) (hL : L.length ≤ 90000000) {T o : Nat} {z : Int} (hT : w.cell? ⟨T, o, none⟩ = some (.int .u16 z)) (hz : IntKind.u64.wrap z = n) (h1 : T ≠ C) (h2 : v.ownBlock ≠ some T) :
    Calls Try.prog 59 #[.pointer (some ⟨C, 0, none⟩), .int .i64 size, .pointer (some ⟨T, o, none⟩)] w fun e w' => e = .returned (.tuple #[]) ∧ ∃ v', Wr w' C base (L ++ be size n) v' ∧ WMod C v w v' w' := by
  have hlt := lt_of_block h.blk
  have hTl : T < w.heap.size := World.block_lt_of_cell? _ _ hT
  have hm : Mod No w (w.alloc (.cells #[.pointer (some ⟨T, o, none⟩)] 100)) := (Mod.refl _ _).alloc _
  have hw : Wr (w.alloc (.cells #[.pointer (some ⟨T, o, none⟩)] 100)) C base L v := ⟨hm.obj h.blk id, own_mod h.own hm (fun _ _ f => f)⟩
  have H := Lib.hid (number_wr hw (by simp; omega) size n hs hL 92 (.pointer (some ⟨w.heap.size, 0, none⟩)) (.func (.func 93) #[] #[.pointer (some ⟨w.heap.size, 0, none⟩)])
    (get_u16 (T := T) (o := o) (at10 w _) (hm.cell hT id) hz (by intro f; rcases f with f | f | f; omega; have := (h.lt f).2; omega; simp at f; omega) (by intro f; rcases f with f | f | f; exact h1 f; exact h2 f; simp at f; omega)))
  have HM := Lib.hid hm
  clear h hm hw hT
  go_enter Try.func59, Try.ntmps59
  go_wp2_with (first | (go_at_call 88; refine H.out.mono ?_; rintro e w1 ⟨rfl, v', hw1, hm1⟩; have HW := Lib.hid (And.intro hw1 hm1); clear hw1 hm1) | fail)
  go_end0
  obtain ⟨hw1, hm1⟩ := HW.out
  exact ⟨rfl, v', hw1, ⟨(HM.out.mono (fun _ f => f.elim)).trans hm1.mod, fun g hg => by
    rcases hm1.row g hg with h | h
    · exact .inl h
    · right; simp at h; omega⟩⟩
theorem num_u16_rd {S : Nat → Prop} {w : World} {C : Nat} {A : Option Addr} {c at_ : Nat} {sh : Bool} (B : List UInt8) (hb : w.heap[C]? = some (rdObj A B.length c at_ sh)) (hrow : RowAt S w A (bcells B)) (hat : at_ ≤ B.length) (hc : B.length ≤ c) (hB : B.length ≤ 100000000) (size : Nat) (hk : size ≤ 2) (hS : ¬ S C)
    {T o : Nat} {cs : Array Value} {t : TypeId} (hT : w.heap[T]? = some (.cells cs t (0, 0))) (ho : o < cs.size) (h1 : T ≠ C) :
    Calls Try.prog 59 #[.pointer (some ⟨C, 0, none⟩), .int .i64 size, .pointer (some ⟨T, o, none⟩)] w fun e w' => e = .returned (.tuple #[]) ∧ w'.heap[C]? = some (rdObj A B.length c (rtake B (at_, sh) size).2.1 (rtake B (at_, sh) size).2.2) ∧
      w'.heap[T]? = some (.cells (cs.setIfInBounds o (.int .u16 (beval (rtake B (at_, sh) size).1))) t (0, 0)) ∧ Mod (fun b => b = C ∨ b = T) w w' := by
  have hlt := lt_of_block hb
  have hTl := lt_of_block hT
  have hm : Mod No w (w.alloc (.cells #[.pointer (some ⟨T, o, none⟩)] 100)) := (Mod.refl _ _).alloc _
  have hnl : beval (rtake B (at_, sh) size).1 < 65536 := by
    have h1 := beval_lt (rtake B (at_, sh) size).1
    rw [rtake_length] at h1
    exact Nat.lt_of_lt_of_le h1 (by rw [show (65536 : Nat) = 256 ^ 2 * 1 from by decide]; exact Nat.le_trans (Nat.pow_le_pow_right (by omega) hk) (Nat.le_mul_of_pos_right _ (by decide)))
  have H := Lib.hid (number_rd B (hm.obj hb id) (S := fun b => S b ∧ b < w.heap.size) ((hrow.mono (fun b hb hs => ⟨hs, hb⟩)).keeps (hm.keeps (fun _ _ _ f => f))) hat hc hB size (by omega) (fun f => hS f.1) (.func (.func 92) #[] #[.pointer (some ⟨w.heap.size, 0, none⟩)]) 93 (.pointer (some ⟨w.heap.size, 0, none⟩)) (fun a W => by go_simp)
    (fun w' => w'.heap[C]? = some (rdObj A B.length c (rtake B (at_, sh) size).2.1 (rtake B (at_, sh) size).2.2) ∧ w'.heap[T]? = some (.cells (cs.setIfInBounds o (.int .u16 (beval (rtake B (at_, sh) size).1))) t (0, 0)) ∧ Mod (fun b => b = C ∨ b = T) w w')
    (fun w1 hC hm1 => (set_u16 (hm1.obj (at10 w _) (by omega)) (hm1.obj (hm.obj hT id) h1) ho hnl).mono (fun e w2 ⟨h2, h3⟩ => by
      subst h3
      refine ⟨h2, ?_, heap_setCell_row (hm1.obj (hm.obj hT id) h1) _, ?_⟩
      · rw [heap_setCell_ne _ _ (by simpa using fun e => h1 e.symm)]; exact hC
      · exact Mod.setCell ((hm.mono (fun _ f => f.elim)).trans (hm1.mono (fun _ h => .inl h))) (.inr (.inr rfl)) _)))
  clear hb hrow hT hm hnl
  go_enter Try.func59, Try.ntmps59
  go_wp2_with (first | (go_at_call 88; refine H.out.mono ?_; rintro e w1 ⟨rfl, hr⟩; have HW := Lib.hid hr; clear hr) | fail)
  go_end0
  exact ⟨rfl, HW.out⟩

/-! ### i64 -/
theorem get_i64 {F : Nat → Prop} {w : World} {bx T o : Nat} {n : Nat} {z : Int} (hbx : w.heap[bx]? = some (.cells #[.pointer (some ⟨T, o, none⟩)] 102 (0, 0))) (hT : w.cell? ⟨T, o, none⟩ = some (.int .i64 z)) (hz : IntKind.u64.wrap z = n) (h1 : ¬ F bx) (h2 : ¬ F T) :
    Gets F 94 (.pointer (some ⟨bx, 0, none⟩)) n w := by
  refine ⟨fun a W => by go_simp, fun W hm => ?_⟩
  have c1 := blk_cell (hm.obj hbx h1) 0
  have c2 := hm.cell hT h2
  simp at c1
  clear hbx hT hm
  go_enter Try.func94, Try.ntmps94
  go_wp2
  go_ret
  exact ⟨by simp, Mod.refl _ _⟩
theorem set_i64 {w : World} {bx T o : Nat} {cs : Array Value} {t : TypeId} {n : Nat} (hbx : w.heap[bx]? = some (.cells #[.pointer (some ⟨T, o, none⟩)] 102 (0, 0))) (hT : w.heap[T]? = some (.cells cs t (0, 0))) (ho : o < cs.size) (hn : n < 9223372036854775808) :
    Calls Try.prog 95 #[.int .u64 n, .pointer (some ⟨bx, 0, none⟩)] w fun e w' => e = .returned (.tuple #[]) ∧ w' = w.setCell ⟨T, o, none⟩ (.int .i64 n) := by
  have c1 := blk_cell hbx 0
  have c2 := blk_cell hT o
  have f2 := blk_free hT o
  rw [Array.getElem?_eq_getElem ho] at c2
  simp at c1
  have hw : IntKind.i64.wrap (n : Int) = n := by simp [IntKind.wrap, IntKind.bits, IntKind.signed]; omega
  clear hbx hT
  go_enter Try.func95, Try.ntmps95
  go_wp2
  go_end0
  exact ⟨rfl, rfl⟩
theorem num_i64_wr {w : World} {C base : Nat} {L : List UInt8} {v : Value} (h : Wr w C base L v) (hb : base ≤ w.heap.size) (size n : Nat) (hs : size ≤ 8) (hL : L.length ≤ 90000000) {T o : Nat} {z : Int} (hT : w.cell? ⟨T, o, none⟩ = some (.int .i64 z)) (hz : IntKind.u64.wrap z = n) (h1 : T ≠ C) (h2 : v.ownBlock ≠ some T) :
    Calls Try.prog 62 #[.pointer (some ⟨C, 0, none⟩), .int .i64 size, .pointer (some ⟨T, o, none⟩)] w fun e w' => e = .returned (.tuple #[]) ∧ ∃ v', Wr w' C base (L ++ be size n) v' ∧ WMod C v w v' w' := by
  have hlt := lt_of_block h.blk
  have hTl : T < w.heap.size := World.block_lt_of_cell? _ _ hT
  have hm : Mod No w (w.alloc (.cells #[.pointer (some ⟨T, o, none⟩)] 102)) := (Mod.refl _ _).alloc _
  have hw : Wr (w.alloc (.cells #[.pointer (some ⟨T, o, none⟩)] 102)) C base L v := ⟨hm.obj h.blk id, own_mod h.own hm (fun _ _ f => f)⟩
  have H := Lib.hid (number_wr hw (by simp; omega) size n hs hL 94 (.pointer (some ⟨w.heap.size, 0, none⟩)) (.func (.func 95) #[] #[.pointer (some ⟨w.heap.size, 0, none⟩)])
    (get_i64 (T := T) (o := o) (at10 w _) (hm.cell hT id) hz (by intro f; rcases f with f | f | f; omega; have := (h.lt f).2; omega; simp at f; omega) (by intro f; rcases f with f | f | f; exact h1 f; exact h2 f; simp at f; omega)))
  have HM := Lib.hid hm
  clear h hm hw hT
  go_enter Try.func62, Try.ntmps62
  go_wp2_with (first | (go_at_call 88; refine H.out.mono ?_; rintro e w1 ⟨rfl, v', hw1, hm1⟩; have HW := Lib.hid (And.intro hw1 hm1); clear hw1 hm1) | fail)
  go_end0
  obtain ⟨hw1, hm1⟩ := HW.out
  exact ⟨rfl, v', hw1, ⟨(HM.out.mono (fun _ f => f.elim)).trans hm1.mod, fun g hg => by
    rcases hm1.row g hg with h | h
    · exact .inl h
    · right; simp at h; omega⟩⟩
theorem num_i64_rd {S : Nat → Prop} {w : World} {C : Nat} {A : Option Addr} {c at_ : Nat} {sh : Bool} (B : List UInt8) (hb : w.heap[C]? = some (rdObj A B.length c at_ sh)) (hrow : RowAt S w A (bcells B)) (hat : at_ ≤ B.length) (hc : B.length ≤ c) (hB : B.length ≤ 100000000) (size : Nat) (hk : size ≤ 7) (hS : ¬ S C)
    {T o : Nat} {cs : Array Value} {t : TypeId} (hT : w.heap[T]? = some (.cells cs t (0, 0))) (ho : o < cs.size) (h1 : T ≠ C) :
    Calls Try.prog 62 #[.pointer (some ⟨C, 0, none⟩), .int .i64 size, .pointer (some ⟨T, o, none⟩)] w fun e w' => e = .returned (.tuple #[]) ∧ w'.heap[C]? = some (rdObj A B.length c (rtake B (at_, sh) size).2.1 (rtake B (at_, sh) size).2.2) ∧
      w'.heap[T]? = some (.cells (cs.setIfInBounds o (.int .i64 (beval (rtake B (at_, sh) size).1))) t (0, 0)) ∧ Mod (fun b => b = C ∨ b = T) w w' := by
  have hlt := lt_of_block hb
  have hTl := lt_of_block hT
  have hm : Mod No w (w.alloc (.cells #[.pointer (some ⟨T, o, none⟩)] 102)) := (Mod.refl _ _).alloc _
  have hnl : beval (rtake B (at_, sh) size).1 < 9223372036854775808 := by
    have h1 := beval_lt (rtake B (at_, sh) size).1
    rw [rtake_length] at h1
    exact Nat.lt_of_lt_of_le h1 (by rw [show (9223372036854775808 : Nat) = 256 ^ 7 * 128 from by decide]; exact Nat.le_trans (Nat.pow_le_pow_right (by omega) hk) (Nat.le_mul_of_pos_right _ (by decide)))
  have H := Lib.hid (number_rd B (hm.obj hb id) (S := fun b => S b ∧ b < w.heap.size) ((hrow.mono (fun b hb hs => ⟨hs, hb⟩)).keeps (hm.keeps (fun _ _ _ f => f))) hat hc hB size (by omega) (fun f => hS f.1) (.func (.func 94) #[] #[.pointer (some ⟨w.heap.size, 0, none⟩)]) 95 (.pointer (some ⟨w.heap.size, 0, none⟩)) (fun a W => by go_simp)
    (fun w' => w'.heap[C]? = some (rdObj A B.length c (rtake B (at_, sh) size).2.1 (rtake B (at_, sh) size).2.2) ∧ w'.heap[T]? = some (.cells (cs.setIfInBounds o (.int .i64 (beval (rtake B (at_, sh) size).1))) t (0, 0)) ∧ Mod (fun b => b = C ∨ b = T) w w')
    (fun w1 hC hm1 => (set_i64 (hm1.obj (at10 w _) (by omega)) (hm1.obj (hm.obj hT id) h1) ho hnl).mono (fun e w2 ⟨h2, h3⟩ => by
      subst h3
      refine ⟨h2, ?_, heap_setCell_row (hm1.obj (hm.obj hT id) h1) _, ?_⟩
      · rw [heap_setCell_ne _ _ (by simpa using fun e => h1 e.symm)]; exact hC
      · exact Mod.setCell ((hm.mono (fun _ f => f.elim)).trans (hm1.mono (fun _ h => .inl h))) (.inr (.inr rfl)) _)))
  clear hb hrow hT hm hnl
  go_enter Try.func62, Try.ntmps62
  go_wp2_with (first | (go_at_call 88; refine H.out.mono ?_; rintro e w1 ⟨rfl, hr⟩; have HW := Lib.hid hr; clear hr) | fail)
  go_end0
  exact ⟨rfl, HW.out⟩

end Go.Proofs.Ytcnemhhbihhcfaa
