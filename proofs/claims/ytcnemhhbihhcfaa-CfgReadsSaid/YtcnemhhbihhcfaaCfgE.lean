/-
  Package cfg, fifth part: a count, a name, both ways; was all read.
-/
import Derived.Test.YtcnemhhbihhcfaaCfgD
namespace Go.Proofs.Ytcnemhhbihhcfaa
open Go.RowKit
set_option linter.unusedVariables false

theorem wrap_u64 (n : Nat) (h : n < 18446744073709551616) : IntKind.u64.wrap (n : Int) = n := by simp [IntKind.wrap, IntKind.bits, IntKind.signed]; omega

set_option maxRecDepth 100000 in
theorem count_wr {w : World} {C base : Nat} {L : List UInt8} {v : Value} (h : Wr w C base L v) (hb : base ≤ w.heap.size) (hL : L.length ≤ 90000000) (n : Nat) :
    Calls Try.prog 68 #[.pointer (some ⟨C, 0, none⟩), .int .i64 n] w fun e w' => e = .returned (.int .i64 (min n 255 : Nat)) ∧ ∃ v', Wr w' C base (L ++ be 1 (min n 255)) v' ∧ WMod C v w v' w' := by
  obtain ⟨m, hm⟩ : ∃ m, m = min n 255 := ⟨_, rfl⟩
  rw [← hm]
  have hmin : min (n : Int) 255 = m := by omega
  have hlt := lt_of_block h.blk
  obtain ⟨w1, hw1⟩ : ∃ w1, w1 = w.alloc (.cells #[.int .i64 m] 3) := ⟨_, rfl⟩
  have hm1 : Mod No w w1 := by rw [hw1]; exact (Mod.refl _ _).alloc _
  have hbox : w1.heap[w.heap.size]? = some (.cells #[.int .i64 m] 3 (0, 0)) := by rw [hw1]; exact at10 w _
  have hwr : Wr w1 C base L v := ⟨hm1.obj h.blk id, own_mod h.own hm1 (fun _ _ f => f)⟩
  have hz : IntKind.u64.wrap (m : Int) = m := wrap_u64 m (by omega)
  have hne := (fun e => Nat.lt_irrefl _ (h.lt (g := w.heap.size) e).2 : v.ownBlock ≠ some w.heap.size)
  have H := num_i64_wr hwr (Nat.le_trans hb hm1.size) 1 m (by omega) hL (T := w.heap.size) (o := 0) (z := m) (by simpa using blk_cell hbox 0) hz (by omega) hne
  have HB := Lib.hid (And.intro hm1 (And.intro hbox hne))
  rw [hw1] at H HB
  have H := Lib.hid H
  clear hm h hb hm1 hbox hwr hz hw1 hne w1
  go_enter Try.func68, Try.ntmps68
  go_wp2_with (first | (go_at_call 62; refine H.out.mono ?_; rintro e w2 ⟨rfl, v', hw2, hm2⟩; have c9 := (blk_cell (hm2.obj HB.out.2.1 (by omega) HB.out.2.2) 0).trans rfl; have HW := Lib.hid (And.intro hw2 hm2); clear hw2 hm2) | fail)
  go_ret
  obtain ⟨hw2, hm2⟩ := HW.out
  exact ⟨rfl, v', hw2, ⟨(HB.out.1.mono (fun _ f => f.elim)).trans hm2.mod, fun g hg => by
    rcases hm2.row g hg with h | h
    · exact .inl h
    · right; simp at h; omega⟩⟩
set_option maxRecDepth 100000 in
theorem count_rd {S : Nat → Prop} {w : World} {C : Nat} {A : Option Addr} {c at_ : Nat} {sh : Bool} (B : List UInt8) (hb : w.heap[C]? = some (rdObj A B.length c at_ sh)) (hrow : RowAt S w A (bcells B)) (hat : at_ ≤ B.length) (hc : B.length ≤ c) (hB : B.length ≤ 100000000) (hS : ¬ S C) (n : Nat) :
    Calls Try.prog 68 #[.pointer (some ⟨C, 0, none⟩), .int .i64 n] w fun e w' => e = .returned (.int .i64 (beval (rtake B (at_, sh) 1).1)) ∧ w'.heap[C]? = some (rdObj A B.length c (rtake B (at_, sh) 1).2.1 (rtake B (at_, sh) 1).2.2) ∧ Mod (fun b => b = C) w w' := by
  obtain ⟨m, hm⟩ : ∃ m, m = min n 255 := ⟨_, rfl⟩
  have hmin : min (n : Int) 255 = m := by omega
  have hlt := lt_of_block hb
  have hm1 : Mod No w (w.alloc (.cells #[.int .i64 m] 3)) := (Mod.refl _ _).alloc _
  have hbox := at10 w (.cells #[.int .i64 m] 3)
  have H := Lib.hid (num_i64_rd B (hm1.obj hb id) (S := fun b => S b ∧ b < w.heap.size) ((hrow.mono (fun b hb hs => ⟨hs, hb⟩)).keeps (hm1.keeps (fun _ _ _ f => f))) hat hc hB 1 (by omega) (fun f => hS f.1) (T := w.heap.size) (o := 0) (cs := #[.int .i64 m]) hbox (by simp) (by omega))
  obtain ⟨r, hr⟩ : ∃ r, r = beval (rtake B (at_, sh) 1).1 := ⟨_, rfl⟩
  rw [← hr] at H
  rw [← hr]
  have HM := Lib.hid hm1
  clear hm hb hrow hm1 hbox hr hS
  go_enter Try.func68, Try.ntmps68
  go_wp2_with (first | (go_at_call 62; refine H.out.mono ?_; rintro e w2 ⟨rfl, hw2, hw3, hm2⟩; have c9 : w2.cell? ⟨w.heap.size, 0, none⟩ = some (.int .i64 r) := (blk_cell hw3 0).trans (by simp); have HW := Lib.hid (And.intro hw2 hm2); clear hw2 hm2 hw3) | fail)
  go_ret
  exact ⟨rfl, HW.out.1, (HM.out.mono (fun _ f => f.elim)).trans' HW.out.2 (fun i hi hg => by rcases hg with h | h; exact h; omega)⟩

/-! ### names -/
/-- Bytes as a string. -/
def str (l : List UInt8) : ByteArray := ⟨l.toArray⟩
theorem str_list (s : ByteArray) : str s.data.toList = s := rfl
theorem conv_bytes (l : List UInt8) (hl : l.length ≤ 100000000) (w : World) : ∃ cap w1, (convert 9 34 (.string (str l))).run Try.prog w = .ok (.slice (some ⟨w.heap.size, 0, none⟩) l.length cap) w1 ∧ l.length ≤ cap ∧ Mod No w w1 ∧ w1.heap.size = w.heap.size + 1 ∧
    ∀ j u, (bcells l)[j]? = some u → w1.cell? ⟨w.heap.size, j, none⟩ = some u := by
  have hs : (str l).size = l.length := by simp [str, ByteArray.size]
  refine ⟨grownCap w (str l).size 0 5, _, ?_, ?_, (Mod.refl No w).drew.alloc (.cells (bytesRow (str l) (grownCap w (str l).size 0 5)) 5 ((bytesRow (str l) (grownCap w (str l).size 0 5)).size, (bytesRow (str l) (grownCap w (str l).size 0 5)).size + 1)), ?_, ?_⟩
  · rw [run_bytes_of_string w 9 34 5 (str l) Try.underlying9 Try.underlying34 Try.underlying5, hs]
  · rw [← hs]; exact grownCap_ge w _ _ _
  · simp
  · intro j u hj
    have := World.cell?_alloc_mark w.drew (bytesRow (str l) (grownCap w (str l).size 0 5)) 5 ((bytesRow (str l) (grownCap w (str l).size 0 5)).size, (bytesRow (str l) (grownCap w (str l).size 0 5)).size + 1) j
    rw [show w.drew.heap.size = w.heap.size from rfl] at this
    rw [this]
    have hjl : j < l.length := by have := (List.getElem?_eq_some_iff.1 hj).1; rwa [bcells_length] at this
    simp only [bytesRow, str, bcells] at hj ⊢
    rw [Array.getElem?_append_left (by simpa using hjl)]
    simpa using hj
theorem slice_head (g len cap k : Nat) (hk : k ≤ cap) : ∀ W, (Instr.slice 34 (.slice (some ⟨g, 0, none⟩) len cap) none (some (.int .i64 (k : Int))) none).run Try.prog W = .ok (.slice (some ⟨g, 0, none⟩) k cap) W := by
  have he : Try.prog.elem 34 = 5 := by kernel_rfl
  have hz : ∀ W, (sizeOf 5).run Try.prog W = .ok 1 W := fun W => by kernel_rfl
  intro W
  rw [run_slice_h W 34 _ _ _ (by rw [he]; exact Try.underlying34) .i64 (k : Int) (by omega) (by omega), he, hz]
  simp only [Result.andThen, sliced, Int.toNat_natCast, Nat.zero_mul, Nat.sub_zero]
  split <;> rfl
theorem conv_back (g cap : Nat) (l : List UInt8) {w : World} (hc : ∀ j u, (bcells l)[j]? = some u → w.cell? ⟨g, j, none⟩ = some u) : (convert 34 9 (.slice (some ⟨g, 0, none⟩) l.length cap)).run Try.prog w = .ok (.string (str l)) w := by
  refine run_convert_bytes_back w 34 9 5 ⟨g, 0, none⟩ cap l Try.underlying34 Try.underlying5 Try.underlying9 (fun j hj => ?_)
  rw [Addr.add_lit, Nat.zero_add]
  exact hc j _ (by simp [bcells, List.getElem?_eq_getElem hj])

theorem WMod.ext {C : Nat} {v v' : Value} {w0 w w' : World} (h0 : Mod No w0 w) (h : WMod C v w v' w') : WMod C v w0 v' w' :=
  ⟨(h0.mono (fun _ f => f.elim)).trans h.mod, fun g hg => by
    rcases h.row g hg with h | h
    · exact .inl h
    · exact .inr (Nat.le_trans h0.size h)⟩
theorem Wr.ext {w w' : World} {C base : Nat} {L : List UInt8} {v : Value} (h : Wr w C base L v) (hm : Mod No w w') : Wr w' C base L v := ⟨hm.obj h.blk id, own_mod h.own hm (fun _ _ f => f)⟩
set_option maxRecDepth 100000 in
theorem name_wr {w : World} {C base : Nat} {L : List UInt8} {v : Value} (h : Wr w C base L v) (hb : base ≤ w.heap.size) (hL : L.length ≤ 80000000) (l : List UInt8) (hl : l.length ≤ 100000000) {T o : Nat} {cs : Array Value} {t : TypeId} (hT : w.heap[T]? = some (.cells cs t (0, 0))) (ho : cs[o]? = some (.string (str l))) (h1 : T ≠ C) (h2 : v.ownBlock ≠ some T) :
    Calls Try.prog 36 #[.pointer (some ⟨C, 0, none⟩), .pointer (some ⟨T, o, none⟩)] w fun e w' => e = .returned (.tuple #[]) ∧ ∃ v', Wr w' C base (L ++ be 1 (min l.length 255) ++ l.take 255) v' ∧
      w'.heap[T]? = some (.cells (cs.setIfInBounds o (.string (str (l.take 255)))) t (0, 0)) ∧ Mod (fun b => b = C ∨ v.ownBlock = some b ∨ b = T) w w' ∧ (∀ g, v'.ownBlock = some g → v.ownBlock = some g ∨ w.heap.size ≤ g) := by
  obtain ⟨cap, w1, hcv, hcap, hm1, hs1, hc1⟩ := conv_bytes l hl w
  obtain ⟨k, hk⟩ : ∃ k, k = min l.length 255 := ⟨_, rfl⟩
  obtain ⟨X, hX⟩ : ∃ X, X = l.take 255 := ⟨_, rfl⟩
  have hXl : X.length = k := by rw [hX, hk, List.length_take]; omega
  have hXc : ∀ (j : Nat) (u : Value), (bcells X)[j]? = some u → (bcells l)[j]? = some u := by
    intro j u hj
    have hjl := (List.getElem?_eq_some_iff.1 hj).1
    rw [bcells_length, hXl] at hjl
    rw [hX] at hj
    simp only [bcells, List.map_take] at hj ⊢
    rwa [List.getElem?_take_of_lt (by omega)] at hj
  have hlt := lt_of_block h.blk
  have hTl := lt_of_block hT
  have hw1 := h.ext hm1
  have hbb1 : w.heap.size ≠ C := by omega
  have hbb2 : v.ownBlock ≠ some w.heap.size := fun e => Nat.lt_irrefl _ (h.lt e).2
  have HC := Lib.hid (count_wr hw1 (Nat.le_trans hb hm1.size) (by omega) l.length)
  rw [← hk] at HC
  have hcell : ∀ (w2 : World) v2, WMod C v w1 v2 w2 → ∀ (j : Nat) (u : Value), (bcells X)[j]? = some u → w2.cell? ((⟨w.heap.size, 0, none⟩ : Addr).add j) = some u := by
    intro w2 v2 hm2 j u hj
    rw [Addr.add_lit, Nat.zero_add]
    refine hm2.mod.cell (hc1 j u (hXc j u hj)) ?_
    rintro (f | f)
    · exact hbb1 f
    · exact hbb2 f
  have hbyt : ∀ v2 w2, Wr w2 C base (L ++ be 1 k) v2 → WMod C v w1 v2 w2 → Calls Try.prog 54 #[.pointer (some ⟨C, 0, none⟩), .slice (some ⟨w.heap.size, 0, none⟩) k cap] w2 fun e w' => e = .returned (.tuple #[]) ∧ ∃ v', Wr w' C base (L ++ be 1 k ++ X) v' ∧ WMod C v w1 v' w' := by
    intro v2 w2 hw2 hm2
    have hby := bytes_wr hw2 (Nat.le_trans hb (Nat.le_trans hm1.size hm2.mod.size)) X (by rw [List.length_append, be_length]; omega) ⟨w.heap.size, 0, none⟩ cap (hcell w2 v2 hm2)
    rw [hXl] at hby
    refine hby.mono fun e w' ⟨he, v', a1, a2⟩ => ⟨he, v', a1, hm2.trans a2⟩
  have hcbt : ∀ w3 v3, WMod C v w1 v3 w3 → (convert 34 9 (.slice (some ⟨w.heap.size, 0, none⟩) k cap)).run Try.prog w3 = .ok (.string (str X)) w3 := by
    intro w3 v3 hm3
    rw [← hXl]
    refine conv_back _ cap X (fun j u hj => hm3.mod.cell (hc1 j u (hXc j u hj)) ?_)
    rintro (f | f)
    · exact hbb1 f
    · exact hbb2 f
  have hsl := slice_head w.heap.size l.length cap k (by omega)
  have hkc : k ≤ cap := by omega
  have hkc' : (k : Int) ≤ cap := by omega
  have hk0 : (0 : Int) ≤ k := by omega
  have c0 := (blk_cell hT o).trans ho
  have hTT : ∀ w3 v3, WMod C v w1 v3 w3 → w3.heap[T]? = some (.cells cs t (0, 0)) ∧ w3.cell? ⟨T, o, none⟩ = some (.string (str l)) ∧ w3.frozen? ⟨T, o, none⟩ = false := by
    intro w3 v3 hm3
    have := hm3.obj (hm1.obj hT id) h1 h2
    exact ⟨this, (blk_cell this o).trans ho, blk_free this o⟩
  have HBY := Lib.hid hbyt
  have HCB := Lib.hid hcbt
  have HTT := Lib.hid hTT
  have H1 := Lib.hid hm1
  have HK := Lib.hid hk
  have HLL := Lib.hid hL
  have HXX := Lib.hid hX
  clear hk hL hcap h hb hT ho hw1 hc1 hXc hTT hX hXl hm1 hcell hbyt hcbt
  go_enter Try.func36, Try.ntmps36
  go_upto_region 5 with (first | (go_at_call 68; refine HC.out.mono ?_; rintro e w2 ⟨rfl, v2, hw2, hm2⟩; have c2 : w2.cell? ⟨C, 1, none⟩ = some (.bool false) := (blk_cell hw2.blk 1).trans rfl; have HW2 := Lib.hid (And.intro hw2 hm2); clear hw2 hm2) | (go_at_call 54; refine (HBY.out v2 w2 HW2.out.1 HW2.out.2).mono ?_; rintro e w3 ⟨rfl, v3, hw3, hm3⟩; have hcb := HCB.out _ _ hm3; obtain ⟨hT3, c3, f3⟩ := HTT.out _ _ hm3; have HT3 := Lib.hid hT3; clear hT3; have HW3 := Lib.hid (And.intro hw3 hm3); clear hw3 hm3) | fail)
  clear HBY HC HTT hcv HCB c0
  go_wp2
  go_end0
  obtain ⟨hw3, hm3⟩ := HW3.out
  have hne3 : v3.ownBlock ≠ some T := by
    intro e
    rcases hm3.row T e with h | h
    · exact h2 h
    · omega
  rw [← HK.out, ← HXX.out]
  refine ⟨rfl, v3, ⟨?_, own_mod hw3.own (Mod.setCell (p := ⟨T, o, none⟩) (Mod.refl (fun b => b = T) w3) (.inr rfl) _) (fun g hg e => hne3 (by rw [← e]; exact hg))⟩, heap_setCell_row HT3.out _, ?_, ?_⟩
  · rw [heap_setCell_ne _ _ (fun e => h1 e.symm)]
    exact hw3.blk
  · refine Mod.setCell ((H1.out.mono (fun _ f => f.elim)).trans (hm3.mod.mono (fun i hi => ?_))) (.inr (.inr (.inr rfl))) _
    rcases hi with h | h
    · exact .inl h
    · exact .inr (.inl h)
  · intro g hg
    rcases hm3.row g hg with h | h
    · exact .inl h
    · right; omega

end Go.Proofs.Ytcnemhhbihhcfaa
