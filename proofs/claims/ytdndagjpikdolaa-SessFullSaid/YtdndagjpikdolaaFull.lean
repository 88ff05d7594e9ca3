/-
  SessFull: the walk: a table takes just so many, and one more as one goes.
  Conditions: none.
-/
import Derived.Test.YtdndagjpikdolaaSessJ
namespace Go.Proofs.Ytdndagjpikdolaa
open Go.RowKit
set_option linter.unusedVariables false

def mkF (i : Nat) : Sess := ⟨⟨6, ⟨i, 0⟩⟩, ⟨9, i⟩, 0, [], 0, 0⟩
def fullL (k m : Nat) : List Sess := (List.range (min k m)).map mkF
def s99 : Sess := ⟨⟨0, ⟨0, 0⟩⟩, ⟨99, 0⟩, 0, [], 0, 0⟩

theorem fullL_len (k m : Nat) : (fullL k m).length = min k m := by simp [fullL]
theorem fullL_mem {k m : Nat} {s : Sess} (h : s ∈ fullL k m) : ∃ i, i < min k m ∧ s = mkF i := by
  simp only [fullL, List.mem_map, List.mem_range] at h
  obtain ⟨i, hi, rfl⟩ := h
  exact ⟨i, hi, rfl⟩
theorem fullL_key (k m : Nat) : (fullL k m).find? (fun x => x.key = (mkF k).key) = none := by
  rw [List.find?_eq_none]
  intro s hs e
  obtain ⟨i, hi, rfl⟩ := fullL_mem hs
  simp [mkF] at e
  omega
theorem fullL_of (k m : Nat) : (fullL k m).find? (fun x => x.of = (mkF k).of) = none := by
  rw [List.find?_eq_none]
  intro s hs e
  obtain ⟨i, hi, rfl⟩ := fullL_mem hs
  simp [mkF, Sess.of] at e
  omega
theorem fullL_lt {k m : Nat} (h : k < m) : fullL k m ++ [mkF k] = fullL (k + 1) m := by
  simp only [fullL, show min k m = k by omega, show min (k + 1) m = k + 1 by omega, List.range_succ, List.map_append, List.map_cons, List.map_nil]
theorem fullL_ge {k m : Nat} (h : ¬ k < m) : fullL (k + 1) m = fullL k m := by
  simp only [fullL, show min k m = m by omega, show min (k + 1) m = m by omega]
theorem fullL_get {k m j : Nat} (h : j < min k m) : (fullL k m)[j]? = some (mkF j) := by
  simp [fullL, h]
theorem mkF_key_wf {k : Nat} (h : k < 50) : (mkF k).key.wf := ⟨(show (Lit.int .u8 6).wf = true by decide), ⟨by simp [mkF, Lit.wf, IntKind.min, IntKind.max, IntKind.signed, IntKind.bits]; omega, (show (Lit.int .u16 0).wf = true by decide)⟩⟩
theorem mkF_out_wf {k : Nat} (h : k < 50) : (mkF k).out.wf := ⟨(show (Lit.int .u32 9).wf = true by decide), by simp [mkF, Lit.wf, IntKind.min, IntKind.max, IntKind.signed, IntKind.bits]; omega⟩

theorem add_fullL {S : Nat → Prop} {w : World} {tb mb mo k m : Nat} (h : Tab w tb mb mo S (fullL k m)) (hk : k < 50) :
    Calls Try.prog 20 #[.pointer (some ⟨tb, 0, none⟩), .agg #[.int .u8 6, .int .u32 k, .int .u16 0, .int .u32 9, .int .u16 k, .int .u32 0, .slice none 0 0, .int .i64 0, .int .u32 0], .int .i64 m] w fun e w' =>
      e = .returned (.int .i64 (if k < m then 0 else 130)) ∧ Mod (fun b => b = mb ∨ b = mo) w w' ∧ ∃ S', Tab w' tb mb mo S' (fullL (k + 1) m) := by
  refine (add_ok (S0 := No) h (mkF k) none 0 (mkF_key_wf hk) (mkF_out_wf hk) m (.nil _ _ _) (show (0 : Nat) ≤ 65536 by decide)).mono ?_
  rintro e w' ⟨he, hm, S', _, ht⟩
  rw [fullL_key, fullL_of] at he ht
  simp only [Option.isSome_none, Bool.or_self, Bool.false_eq_true, if_false, fullL_len] at he ht
  by_cases hlt : k < m
  · rw [if_neg (by omega)] at he ht
    rw [fullL_lt hlt] at ht
    exact ⟨by rw [he, if_pos hlt], hm, S', ht⟩
  · rw [if_pos (by omega)] at he ht
    rw [← fullL_ge hlt] at ht
    exact ⟨by rw [he, if_neg hlt], hm, S', ht⟩

theorem drop_fullL {S : Nat → Prop} {w : World} {tb mb mo k m j : Nat} (h : Tab w tb mb mo S (fullL k m)) (hj : j < min k m) :
    Calls Try.prog 21 #[.pointer (some ⟨tb, 0, none⟩), .agg #[.int .u8 6, .int .u32 j, .int .u16 0]] w fun e w' => e = .returned (.bool true) ∧ Mod (fun b => b = mb ∨ b = mo) w w' ∧ Tab w' tb mb mo S ((fullL k m).eraseIdx j) :=
  drop_hit_ok h (mkF j) j (fullL_get hj)

theorem add_99 {S : Nat → Prop} {w : World} {tb mb mo k m j : Nat} (h : Tab w tb mb mo S ((fullL k m).eraseIdx j)) (hj : j < min k m) :
    Calls Try.prog 20 #[.pointer (some ⟨tb, 0, none⟩), .agg #[.int .u8 0, .int .u32 0, .int .u16 0, .int .u32 99, .int .u16 0, .int .u32 0, .slice none 0 0, .int .i64 0, .int .u32 0], .int .i64 m] w fun e w' =>
      e = .returned (.int .i64 0) ∧ Mod (fun b => b = mb ∨ b = mo) w w' ∧ ∃ S', Tab w' tb mb mo S' ((fullL k m).eraseIdx j ++ [s99]) := by
  refine (add_ok (S0 := No) h s99 none 0 ⟨by decide, ⟨by decide, by decide⟩⟩ ⟨by decide, by decide⟩ m (.nil _ _ _) (by decide)).mono ?_
  rintro e w' ⟨he, hm, S', _, ht⟩
  have e1 : ((fullL k m).eraseIdx j).find? (fun x => x.key = s99.key) = none := by
    rw [List.find?_eq_none]
    intro s hs e
    obtain ⟨i, hi, rfl⟩ := fullL_mem (List.mem_of_mem_eraseIdx hs)
    simp [mkF, s99] at e
  have e2 : ((fullL k m).eraseIdx j).find? (fun x => x.of = s99.of) = none := by
    rw [List.find?_eq_none]
    intro s hs e
    obtain ⟨i, hi, rfl⟩ := fullL_mem (List.mem_of_mem_eraseIdx hs)
    simp [mkF, s99, Sess.of] at e
  have e3 : ((fullL k m).eraseIdx j).length = min k m - 1 := by rw [List.length_eraseIdx, fullL_len, if_pos hj]
  rw [e1, e2] at he ht
  simp only [Option.isSome_none, Bool.or_self, Bool.false_eq_true, if_false, e3] at he ht
  rw [if_neg (by omega)] at he ht
  exact ⟨he, hm, S', ht⟩

set_option maxRecDepth 100000 in
theorem full_walk (a0 a1 a2 : Int) (h0 : (Lit.int .u8 a0).wf = true) (h1 : (Lit.int .u8 a1).wf = true) (h2 : (Lit.int .u8 a2).wf = true) (w : World) :
    Calls Try.prog 6 #[.int .u8 a0, .int .u8 a1, .int .u8 a2] w fun e w' => e = .returned (.bool true) ∧ Mod No w w' := by
  have HKN := Lib.hid (known_ok w)
  have HNEW := Lib.hid new_ok
  have g0 : (0 : Int) ≤ a0 ∧ a0 ≤ 255 := by simpa [Lit.wf, IntKind.min, IntKind.max, IntKind.signed, IntKind.bits] using h0
  have g1 : (0 : Int) ≤ a1 ∧ a1 ≤ 255 := by simpa [Lit.wf, IntKind.min, IntKind.max, IntKind.signed, IntKind.bits] using h1
  have g2 : (0 : Int) ≤ a2 ∧ a2 ≤ 255 := by simpa [Lit.wf, IntKind.min, IntKind.max, IntKind.signed, IntKind.bits] using h2
  clear h0 h1 h2
  obtain ⟨m, hm⟩ : ∃ m : Nat, a1.tmod 40 = (m : Int) := ⟨(a1 % 40).toNat, by rw [Int.tmod_eq_emod_of_nonneg (by omega)]; omega⟩
  obtain ⟨N, hN⟩ : ∃ N : Nat, a0.tmod 50 = (N : Int) := ⟨(a0 % 50).toNat, by rw [Int.tmod_eq_emod_of_nonneg (by omega)]; omega⟩
  have hmb : (m : Int) < 40 := by rw [← hm, Int.tmod_eq_emod_of_nonneg (by omega)]; omega
  have hNb : (N : Int) < 50 := by rw [← hN, Int.tmod_eq_emod_of_nonneg (by omega)]; omega
  have hm0 : (0 : Int) ≤ m := by omega
  have hN0 : (0 : Int) ≤ N := by omega
  go_enter Try.func6, Try.ntmps6
  go_wp2_with (first | (go_at_call 9; refine HKN.out.mono ?_; rintro e w1 ⟨rfl, hm⟩; have HM := Lib.hid hm; clear hm) | (go_at_call 19; refine (HNEW.out _).mono ?_; rintro e w2 ⟨rfl, htab, hm2⟩; have HT := Lib.hid htab; have HM2 := Lib.hid (HM.out.trans hm2); clear htab hm2))
  obtain ⟨B, hB⟩ : ∃ B, B = w1.heap.size := ⟨_, rfl⟩
  have hBw : w.heap.size ≤ B := hB ▸ HM.out.size
  rw [← hB] at HT ⊢
  clear hB
  go_loopw [9] (fun i wr => ∃ (k : Nat) (S : Nat → Prop), i = .int .i64 k ∧ k ≤ N ∧ Tab wr (B + 2) B (B + 1) S (fullL k m) ∧ Mod No w wr) (fun i _ => N - (intOf i).toNat)
  case atStart => exact ⟨0, _, rfl, by omega, by simpa [fullL] using HT.out, HM2.out⟩
  case round =>
    obtain ⟨k, S, rfl, hk, ht, hmw⟩ := hrel
    by_cases hlt : k < N
    · have HADD := Lib.hid (fun W h => add_fullL (ht.mod (w' := W) h) (show k < 50 by omega))
      have HMW := Lib.hid hmw
      have p1 : (0:Int) ≤ k := by omega
      have p2 : (k:Int) < N := by omega
      have q1 : (k : Int) % 4294967296 = k := by omega
      have q2 : (k : Int) % 65536 = k := by omega
      clear ht hmw
      go_wp2_with (first | (go_at_call 20; refine (HADD.out _ ?_).mono ?_; exact (Mod.refl _ _).alloc _; rintro e w3 ⟨rfl, hm3, S', ht3⟩; have HT3 := Lib.hid ht3; have HM3 := Lib.hid hm3; clear ht3 hm3))
      all_goals exact ⟨⟨k + 1, S', by go_num, by omega, HT3.out, (HMW.out.alloc _).trans' HM3.out (fun i hi hg => absurd hi (by omega))⟩, by simp [intOf]; omega⟩
    · obtain rfl : k = N := by omega
      have HMW := Lib.hid hmw
      clear hmw
      by_cases hf : m ≤ k ∧ 0 < m
      · obtain ⟨j, hj⟩ : ∃ j : Nat, a2.tmod (m : Int) = (j : Int) := ⟨(a2 % (m : Int)).toNat, by rw [Int.tmod_eq_emod_of_nonneg (by omega)]; have := Int.emod_nonneg a2 (show (m : Int) ≠ 0 by omega); omega⟩
        have hjm : (j : Int) < m := by rw [← hj, Int.tmod_eq_emod_of_nonneg (by omega)]; exact Int.emod_lt_of_pos _ (by omega)
        have hj0 : (0 : Int) ≤ j := by omega
        have q1 : (j : Int) % 4294967296 = j := by omega
        have r1 : (m : Int) ≤ k := by omega
        have r2 : (0 : Int) < m := by omega
        have hjk : j < min k m := by omega
        have hlen : ((fullL k m).eraseIdx j ++ [s99]).length = m := by rw [List.length_append, List.length_eraseIdx, fullL_len, if_pos hjk]; simp; omega
        have HDR := Lib.hid (fun W h => drop_fullL (ht.mod (w' := W) h) hjk)
        have HA9 := Lib.hid (fun W S (h : Tab W (B + 2) B (B + 1) S ((fullL k m).eraseIdx j)) => add_99 h hjk)
        have HLN := Lib.hid (fun W S (h : Tab W (B + 2) B (B + 1) S ((fullL k m).eraseIdx j ++ [s99])) => hlen ▸ len_ok h)
        clear ht hlen hf hjk
        go_wp2_with (first | (go_at_call 21; refine (HDR.out _ ?_).mono ?_; (repeat (first | with_reducible exact Mod.refl _ _ | refine Mod.alloc ?_ _ | refine Mod.drew ?_)); rintro e w3 ⟨rfl, hm3, ht3⟩; have HT3 := Lib.hid ht3; have HM3 := Lib.hid (HMW.out.trans' hm3 (fun i hi hg => absurd hi (by omega))); clear ht3 hm3) | (go_at_call 20; refine (HA9.out _ _ (HT3.out.mod ?_)).mono ?_; (repeat (first | with_reducible exact Mod.refl _ _ | refine Mod.alloc ?_ _ | refine Mod.drew ?_)); rintro e w4 ⟨rfl, hm4, S4, ht4⟩; have HT4 := Lib.hid ht4; have HM4 := Lib.hid (HM3.out.trans' (Mod.trans (by (repeat (first | with_reducible exact Mod.refl _ _ | refine Mod.alloc ?_ _ | refine Mod.drew ?_))) hm4) (fun i hi hg => absurd hi (by omega))); clear ht4 hm4) | (go_at_call 22; refine (HLN.out _ _ (HT4.out.mod ?_)).mono ?_; (repeat (first | with_reducible exact Mod.refl _ _ | refine Mod.alloc ?_ _ | refine Mod.drew ?_)); rintro e w5 ⟨rfl, rfl⟩) | fail)
        all_goals
          go_ret
          exact ⟨by first | rfl | (simp; omega), by repeat (first | with_reducible exact HM4.out | refine Mod.alloc ?_ _ | refine Mod.drew ?_)⟩
      · have HLN := Lib.hid (fun W h => fullL_len k m ▸ len_ok (ht.mod (w' := W) h))
        clear ht
        have hf' : ¬ ((m : Int) ≤ k ∧ (0 : Int) < m) := by omega
        go_wp2_with (first | (go_at_call 22; refine (HLN.out _ ?_).mono ?_; (repeat (first | with_reducible exact Mod.refl _ _ | refine Mod.alloc ?_ _ | refine Mod.drew ?_)); rintro e w5 ⟨rfl, rfl⟩) | fail)
        all_goals
          go_ret
          exact ⟨by first | rfl | (simp; omega), by repeat (first | with_reducible exact HMW.out | refine Mod.alloc ?_ _ | refine Mod.drew ?_)⟩

end Go.Proofs.Ytdndagjpikdolaa
