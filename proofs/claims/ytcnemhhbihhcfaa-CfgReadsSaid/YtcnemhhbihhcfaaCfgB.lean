/-
  Package cfg, second part: the coder that reads: take, a number read.
-/
import Derived.Test.YtcnemhhbihhcfaaCfgA
namespace Go.Proofs.Ytcnemhhbihhcfaa
open Go.RowKit
set_option linter.unusedVariables false

/-- A coder that reads. -/
def rdObj (A : Option Addr) (n c at_ : Nat) (sh : Bool) : Obj := .cells #[.slice A n c, .bool true, .int .i64 at_, .bool sh] 73 (0, 0)
/-- What 'take' hands back: bytes; the place, whether they ended too early. -/
def rtake (B : List UInt8) (s : Nat × Bool) (k : Nat) : List UInt8 × (Nat × Bool) :=
  if s.2 = true ∨ B.length - s.1 < k then (List.replicate k 0, (s.1, true)) else ((B.drop s.1).take k, (s.1 + k, false))
theorem rtake_length (B : List UInt8) (s : Nat × Bool) (k : Nat) : (rtake B s k).1.length = k := by
  unfold rtake
  split
  · simp
  · simp; omega
theorem rtake_le (B : List UInt8) (s : Nat × Bool) (k : Nat) (h : s.1 ≤ B.length) : (rtake B s k).2.1 ≤ B.length := by
  unfold rtake
  split
  · exact h
  · simp; omega

theorem own_row_bytes (n c at_ k : Nat) (A : Option Addr) (h1 : at_ + k ≤ n) (h2 : n ≤ c) :
    ∃ A', (∀ W, (Instr.slice 34 (.slice A n c) (some (.int .i64 (at_ : Int))) (some (.int .i64 ((at_ : Int) + k))) none).run Try.prog W = .ok (.slice A' k (c - at_)) W) ∧ ∀ (S : Nat → Prop) (w : World) (cs : List Value), RowAt S w A cs → RowAt S w A' ((cs.drop at_).take k) := by
  have hz : ∀ W, (sizeOf 5).run Try.prog W = .ok 1 W := fun W => by kernel_rfl
  have he : Try.prog.elem 34 = 5 := by kernel_rfl
  have hr := fun W => run_slice_lh (P := Try.prog) W 34 A n c (by rw [he]; exact Try.underlying34) .i64 .i64 (at_ : Int) ((at_ : Int) + k) (by omega) (by omega) (by omega)
  refine ⟨if c = at_ then A else A.map (·.add at_), fun W => ?_, fun S w cs hrow => ?_⟩
  · rw [hr W, he, hz]
    simp only [Result.andThen, sliced, Int.toNat_natCast, Nat.mul_one]
    rw [show ((at_ : Int) + k).toNat = at_ + k by omega, Nat.add_sub_cancel_left]
  · rcases hrow with h | ⟨b, o, e, hs, hc⟩
    · subst h; simp; exact .nil _ _ _
    · by_cases hc0 : c = at_
      · have : k = 0 := by omega
        subst this
        simp
        exact .nil _ _ _
      · subst e
        refine .inr ⟨b, o + at_, ?_, hs, fun j v hj => ?_⟩
        · rw [if_neg hc0]
          unfold Addr.add
          by_cases h0 : at_ = 0
          · subst h0; rfl
          · simp [h0]
        · rw [Nat.add_assoc]
          refine hc _ v ?_
          have hjk : j < k := by
            have := (List.getElem?_eq_some_iff.1 hj).1
            simp at this
            omega
          rw [List.getElem?_take_of_lt hjk, List.getElem?_drop] at hj
          exact hj
set_option maxRecDepth 100000 in
theorem make_bytes (k : Nat) (hk : k ≤ 100000000) : ∀ W : World, (Instr.makeSlice 34 (.int .i64 k) (.int .i64 k)).run Try.prog W = .ok (.slice (some ⟨W.heap.size, 0, none⟩) k k) (W.alloc (.cells (bcells (List.replicate k 0)).toArray 5)) := by
  intro W
  obtain ⟨i0, hi, hz0, hz1, hz2⟩ := info_parts infoU8
  have := run_make (P := Try.prog) W 34 5 i0 _ Try.underlying34 hi hz0 .i64 .i64 k k (by omega) (by omega) (by rw [hz2]; omega) (by omega)
  rw [this]
  simp only [Int.toNat_natCast]
  congr 3
  rw [hz1]
  apply Array.ext
  · simp [madeCells, bcells]
  · intro i h1 h2
    simp [madeCells, bcells, Value.cells, Nat.mod_one]

theorem row_new (S : Nat → Prop) (W : World) (L : List UInt8) : RowAt (fun b => S b ∨ W.heap.size ≤ b) (W.alloc (.cells (bcells L).toArray 5)) (some ⟨W.heap.size, 0, none⟩) (bcells L) :=
  .inr ⟨_, 0, rfl, .inr (Nat.le_refl _), fun j v hj => by rw [Nat.zero_add, blk_cell (at10 W _) j]; simpa using hj⟩
theorem rd_set2 (A : Option Addr) (n c at_ : Nat) (sh : Bool) {w : World} {C : Nat} (h : w.heap[C]? = some (rdObj A n c at_ sh)) (k : Nat) (x : Int) (hx : x = (k : Int)) : (w.setCell ⟨C, 2, none⟩ (.int .i64 x)).heap[C]? = some (rdObj A n c k sh) := by
  subst hx; rw [rdObj] at h; rw [heap_setCell_row h]; simp [rdObj]
theorem rd_set3 (A : Option Addr) (n c at_ : Nat) (sh : Bool) {w : World} {C : Nat} (h : w.heap[C]? = some (rdObj A n c at_ sh)) (b : Bool) : (w.setCell ⟨C, 3, none⟩ (.bool b)).heap[C]? = some (rdObj A n c at_ b) := by
  rw [rdObj] at h; rw [heap_setCell_row h]; simp [rdObj]
theorem rtake_short {B : List UInt8} {s : Nat × Bool} {k : Nat} (h : s.2 = true ∨ B.length - s.1 < k) : rtake B s k = (List.replicate k 0, (s.1, true)) := if_pos h
theorem rtake_full {B : List UInt8} {s : Nat × Bool} {k : Nat} (h : ¬ (s.2 = true ∨ B.length - s.1 < k)) : rtake B s k = ((B.drop s.1).take k, (s.1 + k, false)) := if_neg h

set_option maxRecDepth 100000 in
theorem take_ok {S : Nat → Prop} {w : World} {C : Nat} {A : Option Addr} {c at_ : Nat} {sh : Bool} (B : List UInt8) (hb : w.heap[C]? = some (rdObj A B.length c at_ sh)) (hrow : RowAt S w A (bcells B)) (hat : at_ ≤ B.length) (hc : B.length ≤ c) (hB : B.length ≤ 100000000) (k : Nat) (hk : k ≤ 100000000) (hS : ¬ S C) :
    Calls Try.prog 91 #[.pointer (some ⟨C, 0, none⟩), .int .i64 k] w fun e w' => ∃ A' c', e = .returned (.slice A' k c') ∧ k ≤ c' ∧ RowAt (fun b => S b ∨ w.heap.size ≤ b) w' A' (bcells (rtake B (at_, sh) k).1) ∧
      w'.heap[C]? = some (rdObj A B.length c (rtake B (at_, sh) k).2.1 (rtake B (at_, sh) k).2.2) ∧ Mod (fun b => b = C) w w' := by
  obtain ⟨n, hn⟩ : ∃ n, n = B.length := ⟨_, rfl⟩
  rw [← hn] at hb hat hc hB
  rw [← hn]
  have hlt := lt_of_block hb
  have c0 := blk_cell hb 0
  have c2 := blk_cell hb 2
  have c3 := blk_cell hb 3
  have f2 := blk_free hb 2
  have f3 := blk_free hb 3
  simp at c0 c2 c3
  have HB := Lib.hid hb
  have HR := Lib.hid hrow
  have HN := Lib.hid hn
  have HAT := Lib.hid hat
  have hmk := make_bytes k hk
  have HS := Lib.hid hS
  have HSH := Lib.hid (rtake_short (B := B) (s := (at_, sh)) (k := k))
  have HFU := Lib.hid (rtake_full (B := B) (s := (at_, sh)) (k := k))
  clear hb hrow hn hS
  by_cases hsh : sh = true
  · have HE := Lib.hid (HSH.out (.inl hsh))
    subst hsh
    go_enter Try.func91, Try.ntmps91
    go_wp2
    go_quiet (fail)
    go_wp2
    go_ret
    rw [HE.out]
    refine ⟨_, _, rfl, Nat.le_refl _, ?_, ?_, ?_⟩
    · have := row_new S ((w.drewN nq).setCell ⟨C, 3, none⟩ (.bool true)) (List.replicate k 0)
      simpa using this
    · exact (Below.heap_alloc _ _ _ (by simpa using hlt)).trans (rd_set3 A n c at_ true (w := w.drewN nq) HB.out true)
    · repeat (first | with_reducible exact Mod.refl _ _ | refine Mod.alloc ?_ _ | refine Mod.drewN ?_ _ | refine Mod.setCell ?_ (.inr (by rfl)) _)
  · have hshf : sh = false := by simpa using hsh
    subst hshf
    by_cases hlen : n - at_ < k
    · have HE := Lib.hid (HSH.out (.inr (by rw [← HN.out]; exact hlen)))
      have p1 : (n : Int) - at_ < k := by omega
      have p2 : decide ((n : Int) - at_ < k) = true := by simpa using p1
      clear hlen hsh
      go_enter Try.func91, Try.ntmps91
      go_wp2
      go_quiet (fail)
      go_wp2
      go_ret
      rw [HE.out]
      refine ⟨_, _, rfl, Nat.le_refl _, ?_, ?_, ?_⟩
      · have := row_new S ((w.drewN nq).setCell ⟨C, 3, none⟩ (.bool true)) (List.replicate k 0)
        simpa using this
      · exact (Below.heap_alloc _ _ _ (by simpa using hlt)).trans (rd_set3 A n c at_ false (w := w.drewN nq) HB.out true)
      · repeat (first | with_reducible exact Mod.refl _ _ | refine Mod.alloc ?_ _ | refine Mod.drewN ?_ _ | refine Mod.setCell ?_ (.inr (by rfl)) _)
    · have HE := Lib.hid (HFU.out (by rw [← HN.out]; simp; omega))
      have p1 : ¬ ((n : Int) - at_ < k) := by omega
      have p2 : decide ((n : Int) - at_ < k) = false := by simpa using p1
      have p3 : (at_ : Int) + k ≤ n := by omega
      have p4 : (at_ : Int) + k - k = at_ := by omega
      obtain ⟨A', hsl, hA'⟩ := own_row_bytes n c at_ k A (by omega) hc
      have HA := Lib.hid hA'
      clear hlen hsh hA'
      go_enter Try.func91, Try.ntmps91
      go_wp2
      go_quiet (fail)
      go_wp2
      obtain ⟨q1, hq1⟩ : ∃ q1, q1 = nq := ⟨_, rfl⟩
      rw [← hq1]
      clear hq1
      clear nq
      go_quiet (fail)
      go_wp2
      go_ret
      rw [HE.out]
      have hm : Mod (fun b => b = C) w (((w.drewN q1).setCell ⟨C, 2, none⟩ (.int .i64 ((at_ : Int) + k))).drewN nq) := by
        repeat (first | with_reducible exact Mod.refl _ _ | refine Mod.alloc ?_ _ | refine Mod.drewN ?_ _ | refine Mod.setCell ?_ (.inr (by rfl)) _)
      refine ⟨A', _, rfl, by have := HAT.out; omega, ?_, ?_, hm⟩
      · have h1 := HA.out S _ _ (HR.out.keeps (hm.keeps (fun b _ hb e => HS.out (by subst e; exact hb))))
        have e : bcells ((B.drop at_).take k) = ((bcells B).drop at_).take k := by simp [bcells]
        rw [e]
        exact h1.mono (fun _ _ h => .inl h)
      · exact rd_set2 A n c at_ false (w := w.drewN q1) HB.out (at_ + k) _ (by omega)

/-! ### a number read -/
/-- The number that bytes are, the highest first. -/
def beval (l : List UInt8) : Nat := l.foldl (fun n x => n * 256 + x.toNat) 0
theorem beval_snoc (l : List UInt8) (x : UInt8) : beval (l ++ [x]) = beval l * 256 + x.toNat := by simp [beval]
theorem foldl_lt : ∀ (l : List UInt8) (n : Nat), l.foldl (fun n x => n * 256 + x.toNat) n < (n + 1) * 256 ^ l.length
  | [], n => by simp
  | x :: l, n => by
    rw [List.foldl_cons, List.length_cons, Nat.pow_succ]
    refine Nat.lt_of_lt_of_le (foldl_lt l _) ?_
    have hx := x.toNat_lt
    rw [Nat.mul_comm (256 ^ l.length) 256, ← Nat.mul_assoc]
    exact Nat.mul_le_mul_right _ (by omega)
theorem beval_lt (l : List UInt8) : beval l < 256 ^ l.length := by simpa [beval] using foldl_lt l 0
theorem or_low (n x : Nat) (hn : n < 2 ^ 56) (hx : x < 256) : bits .or .u64 ((n : Int) * 256) (x : Int) = (n : Int) * 256 + x := by
  have h1 : (BitVec.ofInt 64 ((n : Int) * 256)) = BitVec.ofNat 64 (n <<< 8) := by
    have e : ((n : Int) * (256 : Int)) = ((n <<< 8 : Nat) : Int) := by rw [Nat.shiftLeft_eq]; omega
    rw [e]
    exact BitVec.ofInt_natCast ..
  have h2 : (BitVec.ofInt 64 (x : Int)) = BitVec.ofNat 64 x := BitVec.ofInt_natCast ..
  have h3 : n <<< 8 ||| x = n * 256 + x := by rw [← Nat.shiftLeft_add_eq_or_of_lt (by simpa using hx), Nat.shiftLeft_eq]
  have h4 : (BitVec.ofNat 64 (n <<< 8) ||| BitVec.ofNat 64 x).toNat = n * 256 + x := by
    rw [BitVec.toNat_or, BitVec.toNat_ofNat, BitVec.toNat_ofNat, Nat.mod_eq_of_lt (by rw [Nat.shiftLeft_eq]; omega), Nat.mod_eq_of_lt (by omega), h3]
  have h5 : bits .or .u64 ((n : Int) * 256) (x : Int) = IntKind.u64.wrap ((BitVec.ofInt 64 ((n : Int) * 256) ||| BitVec.ofInt 64 (x : Int)).toNat) := rfl
  rw [h5, h1, h2, h4]
  simp [IntKind.wrap, IntKind.bits, IntKind.signed]
  omega

set_option maxRecDepth 100000 in
theorem number_rd {S : Nat → Prop} {w : World} {C : Nat} {A : Option Addr} {c at_ : Nat} {sh : Bool} (B : List UInt8) (hb : w.heap[C]? = some (rdObj A B.length c at_ sh)) (hrow : RowAt S w A (bcells B)) (hat : at_ ≤ B.length) (hc : B.length ≤ c) (hB : B.length ≤ 100000000) (size : Nat) (hk : size ≤ 7) (hS : ¬ S C)
    (gv : Value) (fn : Nat) (cp : Value) (hen : ∀ (a : Array Value) (W : World), (callFunc fn a).run Try.prog W = .ok (.enter fn a) W) (R : World → Prop)
    (hset : ∀ w1, w1.heap[C]? = some (rdObj A B.length c (rtake B (at_, sh) size).2.1 (rtake B (at_, sh) size).2.2) → Mod (fun b => b = C) w w1 → Calls Try.prog fn #[.int .u64 (beval (rtake B (at_, sh) size).1), cp] w1 fun e w' => e = .returned (.tuple #[]) ∧ R w') :
    Calls Try.prog 88 #[.pointer (some ⟨C, 0, none⟩), .int .i64 size, gv, .func (.func fn) #[] #[cp]] w fun e w' => e = .returned (.tuple #[]) ∧ R w' := by
  have HT := Lib.hid (take_ok B hb hrow hat hc hB size (by omega) hS)
  have hxl := rtake_length B (at_, sh) size
  obtain ⟨xs, hxs⟩ : ∃ xs, xs = (rtake B (at_, sh) size).1 := ⟨_, rfl⟩
  obtain ⟨st, hst⟩ : ∃ st, st = (rtake B (at_, sh) size).2 := ⟨_, rfl⟩
  rw [← hxs] at hset hxl
  rw [← hst] at hset
  rw [← hxs, ← hst] at HT
  have HSET := Lib.hid hset
  have HXL := Lib.hid hxl
  have c1 := blk_cell hb 1
  simp at c1
  clear hset hxl hb hrow hS hxs hst
  go_enter Try.func88, Try.ntmps88
  go_wp2_with (first | (go_at_call 91; refine HT.out.mono ?_; rintro e w1 ⟨A', c', rfl, hcc, hr1, hb1, hm1⟩; have HR1 := Lib.hid (And.intro hr1 (And.intro hb1 hm1)); clear hr1 hb1 hm1) | fail)
  go_loopw [43, 9] (fun i v wr => ∃ (k m : Nat), i = .int .i64 k ∧ v = .int .u64 m ∧ k ≤ size ∧ m = beval (xs.take k) ∧ wr = w1) (fun i _ _ => size - (intOf i).toNat)
  case atStart => exact ⟨0, 0, rfl, rfl, by omega, by simp [beval], rfl⟩
  case round =>
    obtain ⟨k, m, rfl, rfl, hk1, hm, rfl⟩ := hrel
    have HM := Lib.hid hm
    clear hm
    by_cases hlt : k < size
    · obtain ⟨x, hx⟩ : ∃ x, xs[k]? = some x := ⟨_, List.getElem?_eq_getElem (by have := HXL.out; omega)⟩
      have hxc : (bcells xs)[k]? = some (.int .u8 (x.toNat : Int)) := by simp [bcells, hx]
      obtain ⟨b, o, rfl, _, _, hcell⟩ := HR1.out.1.open (by intro e; rw [e] at hxc; simp at hxc)
      have hc0 := hcell k _ hxc
      have hml : m < 256 ^ k := by
        have := beval_lt (xs.take k)
        rw [← HM.out, List.length_take, Nat.min_eq_left (by have := HXL.out; omega)] at this
        exact this
      have hm6 : m < 2 ^ 48 := Nat.lt_of_lt_of_le hml (by rw [show (2:Nat) ^ 48 = 256 ^ 6 from rfl]; exact Nat.pow_le_pow_right (by omega) (by omega))
      have hx8 := x.toNat_lt
      have e1 : IntKind.u64.wrap ((m : Int) * 256) = (m : Int) * 256 := by simp [IntKind.wrap, IntKind.bits, IntKind.signed]; omega
      have e2 : IntKind.u64.wrap (x.toNat : Int) = (x.toNat : Int) := by simp [IntKind.wrap, IntKind.bits, IntKind.signed]; omega
      have e3 := or_low m x.toNat (by omega) hx8
      have HX := Lib.hid hx
      have p1 : (0:Int) ≤ k := by omega
      have p2 : (k:Int) < size := by omega
      clear hx hxc hcell hml hm6 hx8
      go_wp2
      refine ⟨⟨k + 1, m * 256 + x.toNat, by go_num, by simp, by omega, ?_, by simp⟩, by simp [intOf]; omega⟩
      obtain ⟨hlx, ex⟩ := List.getElem?_eq_some_iff.1 HX.out
      rw [List.take_succ_eq_append_getElem hlx, ex, beval_snoc, ← HM.out]
    · have hk' : k = size := by omega
      subst hk'
      have hmx : m = beval xs := by rw [HM.out, List.take_of_length_le (by rw [HXL.out]; exact Nat.le_refl _)]
      have HF := Lib.hid (HSET.out _ HR1.out.2.1 HR1.out.2.2)
      rw [← hmx] at HF
      clear hmx
      go_wp2_with fail
      refine HF.out.mono ?_
      rintro e w2 ⟨rfl, hR⟩
      go_wp2
      go_end0
      exact ⟨rfl, hR⟩

end Go.Proofs.Ytcnemhhbihhcfaa
