/-
  Package lychlaw19: the chapter's example.
-/
import Derived.Test.YtimbhkbdmcbodaaSessE
import Derived.Test.YtimbhkbdmcbodaaSessG
namespace Go.Proofs.Ytimbhkbdmcbodaa
open Go.RowKit
set_option linter.unusedVariables false

theorem add_ok {S S0 : Nat → Prop} {w : World} {tb mb mo : Nat} {L : List Sess} (h : Tab w tb mb mo S L) (s : Sess) (A : Option Addr) (cc : Nat) (hk : s.key.wf) (ho : s.out.wf) (most : Int) (hx : RowAt S0 w A (ptCells s.peers)) (hpl : s.peers.length ≤ 65536) :
    Calls Try.prog 7 #[.pointer (some ⟨tb, 0, none⟩), s.val A cc, .int .i64 most] w fun e w' =>
      e = .returned (.int .i64 (if (L.find? (fun x => x.key = s.key)).isSome || (L.find? (fun x => x.of = s.of)).isSome then 131 else if most ≤ L.length then 130 else 0)) ∧
      Mod (fun b => b = mb ∨ b = mo) w w' ∧
      ∃ S', (∀ b, S' b → S b ∨ (w.heap.size ≤ b ∧ b < w'.heap.size)) ∧ Tab w' tb mb mo S' (if (L.find? (fun x => x.key = s.key)).isSome || (L.find? (fun x => x.of = s.of)).isSome then L else if most ≤ L.length then L else L ++ [s]) := by
  cases hin : (L.find? (fun x => x.key = s.key)).isSome || (L.find? (fun x => x.of = s.of)).isSome with
  | true =>
    refine (add_have_ok (S0 := S0) h s A cc hk ho most hin).mono fun e w' ⟨h1, h2⟩ => ⟨by simpa using h1, h2.mono (fun _ h => h.elim), S, fun b hb => .inl hb, by simpa using h.mod h2⟩
  | false =>
    rw [Bool.or_eq_false_iff] at hin
    have hn1 : L.find? (fun x => x.key = s.key) = none := by simpa using hin.1
    have hn2 : L.find? (fun x => x.of = s.of) = none := by simpa using hin.2
    by_cases hf : most ≤ L.length
    · refine (add_full_ok h s A cc hk ho most hx hpl hf hn1 hn2).mono fun e w' ⟨h1, h2⟩ => ⟨by simpa [hf] using h1, h2.mono (fun _ h => h.elim), S, fun b hb => .inl hb, by simpa [hf] using h.mod h2⟩
    · refine (add_new_ok h s A cc hk ho most hx hpl hf hn1 hn2).mono fun e w' ⟨h1, h2, S', h3, h4⟩ => ⟨by simpa [hf] using h1, h2, S', h3, by simpa [hf] using h4⟩

def exSess : Sess := ⟨⟨17, ⟨1, 2⟩⟩, ⟨3, 4⟩, 0, [], 0, 0⟩
theorem exKey_wf : exSess.key.wf := ⟨by decide, ⟨by decide, by decide⟩⟩
theorem exOut_wf : exSess.out.wf := ⟨by decide, by decide⟩
theorem exOf_wf : exSess.of.wf := ⟨by decide, ⟨by decide, by decide⟩⟩

set_option maxRecDepth 100000 in
set_option maxHeartbeats 1600000 in
theorem known_ok (w : World) : Calls Try.prog 5 #[] w fun e w' => e = .returned (.bool true) ∧ Mod No w w' := by
  have HA1 := Lib.hid (show ∀ W (S : Nat → Prop), Tab W (w.heap.size + 2) w.heap.size (w.heap.size + 1) S [] → Calls Try.prog 7 #[(.pointer (some ⟨w.heap.size + 2, 0, none⟩)), (.agg #[.int .u8 17, .int .u32 1, .int .u16 2, .int .u32 3, .int .u16 4, .int .u32 0, .slice none 0 0, .int .i64 0, .int .u32 0]), .int .i64 1] W fun e w' => e = .returned (.int .i64 0) ∧ Mod (fun b => b = w.heap.size ∨ b = w.heap.size + 1) W w' ∧ ∃ S', (∀ b, S' b → S b ∨ (W.heap.size ≤ b ∧ b < w'.heap.size)) ∧ Tab w' (w.heap.size + 2) w.heap.size (w.heap.size + 1) S' [exSess] from fun W S h => (add_ok (S0 := No) h exSess none 0 exKey_wf exOut_wf 1 (.nil _ _ _) (by decide)).mono fun e w' h => h)
  have HA2 := Lib.hid (show ∀ W (S : Nat → Prop), Tab W (w.heap.size + 2) w.heap.size (w.heap.size + 1) S [exSess] → Calls Try.prog 7 #[(.pointer (some ⟨w.heap.size + 2, 0, none⟩)), (.agg #[.int .u8 17, .int .u32 1, .int .u16 2, .int .u32 3, .int .u16 4, .int .u32 0, .slice none 0 0, .int .i64 0, .int .u32 0]), .int .i64 1] W fun e w' => e = .returned (.int .i64 131) ∧ Mod (fun b => b = w.heap.size ∨ b = w.heap.size + 1) W w' ∧ ∃ S', (∀ b, S' b → S b ∨ (W.heap.size ≤ b ∧ b < w'.heap.size)) ∧ Tab w' (w.heap.size + 2) w.heap.size (w.heap.size + 1) S' [exSess] from fun W S h => (add_ok (S0 := No) h exSess none 0 exKey_wf exOut_wf 1 (.nil _ _ _) (by decide)).mono fun e w' h => h)
  have HO := Lib.hid (show ∀ W (S : Nat → Prop), Tab W (w.heap.size + 2) w.heap.size (w.heap.size + 1) S [exSess] → Calls Try.prog 11 #[(.pointer (some ⟨w.heap.size + 2, 0, none⟩)), .int .u8 17, .agg #[.int .u32 3, .int .u16 4]] W fun e w' => ∃ v, e = .returned (.tuple #[v, .bool true]) ∧ SessV (fun b => W.heap.size ≤ b) w' exSess v ∧ Mod No W w' from fun W S h => out_ok h exSess.of exOf_wf)
  have HL := Lib.hid (show ∀ W (S : Nat → Prop), Tab W (w.heap.size + 2) w.heap.size (w.heap.size + 1) S [exSess] → Calls Try.prog 24 #[(.pointer (some ⟨w.heap.size + 2, 0, none⟩))] W fun e w' => e = .returned (.int .i64 1) ∧ w' = W from fun W S h => len_ok h)
  have HS := Lib.hid (show ∀ W A c (S : Nat → Prop), RowAt S W A (ptCells []) → Calls Try.prog 22 #[.agg #[.int .u8 17, .int .u32 1, .int .u16 2, .int .u32 3, .int .u16 4, .int .u32 0, .slice A 0 c, .int .i64 0, .int .u32 0], (.agg #[.int .u8 17, .int .u32 1, .int .u16 2, .int .u32 3, .int .u16 4, .int .u32 0, .slice none 0 0, .int .i64 0, .int .u32 0])] W fun e w' => e = .returned (.bool true) ∧ Mod No W w' from fun W A c S h => helpSess_ok (S' := No) exSess exSess A none c 0 W h (.nil _ _ _) (by decide))
  have HP := Lib.hid (show ∀ W, Calls Try.prog 12 #[.slice none 0 0, .agg #[.int .u32 0, .int .u16 0]] W fun e w' => ∃ v, e = .returned v ∧ w'.ownsRow W.heap.size 26 2 v 1 (ptCells [Point.zero]) ∧ Mod No W w' from fun W => peer_ok (S := No) none 0 [] Point.zero W (.nil _ _ _) (by decide))
  have HW := Lib.hid (show ∀ W, Calls Try.prog 27 #[.int .i64 0, .slice none 0 0, .agg #[.int .u32 0, .int .u16 0]] W fun e w' => e = .returned (.bool true) ∧ Mod No W w' from fun W => allows_ok (S := No) 0 Point.zero none 0 [] W (.nil _ _ _) (by decide))
  go_enter Try.func5, Try.ntmps5
  go_wp2_with fail
  refine (new_ok w).mono ?_
  rintro e w1 ⟨rfl, hT, hm⟩
  have HT := Lib.hid hT
  have HM := Lib.hid hm
  have hz := lt_of_block hT.row
  clear hT hm
  have hold : ∀ w', Mod (fun b => b = w.heap.size ∨ b = w.heap.size + 1) (w1.alloc (.cells #[.int .u8 17, .int .u32 1, .int .u16 2, .int .u32 3, .int .u16 4, .int .u32 0, .slice none 0 0, .int .i64 0, .int .u32 0] 35)) w' → w'.cell? ⟨w1.heap.size, 0, none⟩ = some (.int .u8 17) ∧ w'.cell? ⟨w1.heap.size, 1, none⟩ = some (.int .u32 1) ∧ w'.cell? ⟨w1.heap.size, 2, none⟩ = some (.int .u16 2) ∧ w'.cell? ⟨w1.heap.size, 3, none⟩ = some (.int .u32 3) ∧ w'.cell? ⟨w1.heap.size, 4, none⟩ = some (.int .u16 4) ∧ w'.cell? ⟨w1.heap.size, 5, none⟩ = some (.int .u32 0) ∧ w'.cell? ⟨w1.heap.size, 6, none⟩ = some (.slice none 0 0) ∧ w'.cell? ⟨w1.heap.size, 7, none⟩ = some (.int .i64 0) ∧ w'.cell? ⟨w1.heap.size, 8, none⟩ = some (.int .u32 0) := by
    intro w' hm
    have B := hm.obj (at10 w1 _) (by simp only [not_or]; omega)
    exact ⟨(blk_cell B 0).trans rfl, (blk_cell B 1).trans rfl, (blk_cell B 2).trans rfl, (blk_cell B 3).trans rfl, (blk_cell B 4).trans rfl, (blk_cell B 5).trans rfl, (blk_cell B 6).trans rfl, (blk_cell B 7).trans rfl, (blk_cell B 8).trans rfl⟩
  have HH := Lib.hid hold
  clear hold
  go_upto_region 5 with fail
  go_cut [3, 4] (fun s3 s4 wx => s3 = .int .i64 0 ∧ s4 = .int .i64 131 ∧ (∃ S, Tab wx (w.heap.size + 2) w.heap.size (w.heap.size + 1) S [exSess]) ∧ Mod (fun b => b = w.heap.size ∨ b = w.heap.size + 1) (w1.alloc (.cells #[.int .u8 17, .int .u32 1, .int .u16 2, .int .u32 3, .int .u16 4, .int .u32 0, .slice none 0 0, .int .i64 0, .int .u32 0] 35)) wx)
  case first =>
    go_region_held3 (fun w' => w'.cell? ⟨w1.heap.size, 0, none⟩ = some (.int .u8 17) ∧ w'.cell? ⟨w1.heap.size, 1, none⟩ = some (.int .u32 1) ∧ w'.cell? ⟨w1.heap.size, 2, none⟩ = some (.int .u16 2) ∧ w'.cell? ⟨w1.heap.size, 3, none⟩ = some (.int .u32 3) ∧ w'.cell? ⟨w1.heap.size, 4, none⟩ = some (.int .u16 4) ∧ w'.cell? ⟨w1.heap.size, 5, none⟩ = some (.int .u32 0) ∧ w'.cell? ⟨w1.heap.size, 6, none⟩ = some (.slice none 0 0) ∧ w'.cell? ⟨w1.heap.size, 7, none⟩ = some (.int .i64 0) ∧ w'.cell? ⟨w1.heap.size, 8, none⟩ = some (.int .u32 0))
      ((refine HH.out _ ?_; repeat (first | with_reducible exact Mod.refl _ _ | with_reducible exact hz3 | with_reducible exact hz2 | refine Mod.alloc ?_ _ | refine Mod.drew ?_)))
      (first | (go_at_call 7; refine (HA2.out _ _ ht2).mono ?_; rintro e w3 ⟨rfl, hm3, S3, _, ht3⟩; have hz3 : Mod (fun b => b = w.heap.size ∨ b = w.heap.size + 1) (w1.alloc (.cells #[.int .u8 17, .int .u32 1, .int .u16 2, .int .u32 3, .int .u16 4, .int .u32 0, .slice none 0 0, .int .i64 0, .int .u32 0] 35)) w3 := hz2.trans hm3) | (go_at_call 7; refine (HA1.out _ _ (HT.out.mod ?_)).mono ?_; (repeat (first | with_reducible exact Mod.refl _ _ | with_reducible exact hz3 | with_reducible exact hz2 | refine Mod.alloc ?_ _ | refine Mod.drew ?_)); rintro e w2 ⟨rfl, hm2, S2, _, ht2⟩; have hz2 : Mod (fun b => b = w.heap.size ∨ b = w.heap.size + 1) (w1.alloc (.cells #[.int .u8 17, .int .u32 1, .int .u16 2, .int .u32 3, .int .u16 4, .int .u32 0, .slice none 0 0, .int .i64 0, .int .u32 0] 35)) w2 := Mod.trans (by repeat (first | with_reducible exact Mod.refl _ _ | with_reducible exact hz3 | with_reducible exact hz2 | refine Mod.alloc ?_ _ | refine Mod.drew ?_)) hm2) | fail)
    all_goals (go_wp2_with fail; go_meet; exact ⟨rfl, rfl, ⟨_, ht3⟩, hz3⟩)
  case rest =>
  obtain ⟨rfl, rfl, ⟨S, ht⟩, hmc⟩ := hcut
  have HT2 := Lib.hid ht
  have F := HH.out _ hmc
  have HMC := Lib.hid hmc
  have hzc := hmc.size
  simp at hzc
  clear ht hmc
  go_wp2_with fail
  refine (HO.out _ _ HT2.out).mono ?_
  rintro e w4 ⟨v, rfl, hv, hm4⟩
  obtain ⟨A', c', rfl, hr⟩ := hv.val
  have HM4 := Lib.hid (HMC.out.trans (Mod.mono (G := (fun b => b = w.heap.size ∨ b = w.heap.size + 1)) hm4 (fun _ h => h.elim)))
  have F4 := HH.out _ HM4.out
  have HT4 := Lib.hid (HT2.out.mod hm4)
  have HR := Lib.hid (show RowAt (fun b => wc.heap.size ≤ b ∧ b < w4.heap.size) w4 A' (ptCells []) from hr.mono (fun b hb hs => ⟨hs, hb⟩))
  have hz4 : w1.heap.size < w4.heap.size := by have := hm4.size; omega
  clear hv hr hm4 F
  simp only [exSess, Sess.val, List.length_nil]
  go_wp2_with (first | (go_at_call 22; refine (HS.out _ A' c' (fun b => wc.heap.size ≤ b ∧ b < w4.heap.size) (HR.out.keeps (Mod.keeps ((Mod.refl No _).alloc _) (fun _ _ _ => id)))).mono ?_; rintro e w5 ⟨rfl, hm5⟩; have HM5 := Lib.hid (((Mod.refl No w4).alloc _).trans hm5); have HT5 := Lib.hid (HT4.out.mod HM5.out); clear hm5) | (go_at_call 24; refine (HL.out _ _ HT5.out).mono ?_; rintro e w' ⟨rfl, rfl⟩) | (go_at_call 25; go_in) | (go_at_call 26; go_in) | (go_at_call 12; refine (HP.out _).mono ?_; rintro e w6 ⟨v6, rfl, own6, hm6⟩; obtain ⟨g6, cap6, rfl, _, _⟩ := own6.form (by omega); have HM6 := Lib.hid hm6; clear hm6 own6) | (go_at_call 27; refine (HW.out _).mono ?_; rintro e w7 ⟨rfl, hm7⟩; have HM7 := Lib.hid hm7; clear hm7))
  go_ret
  exact ⟨rfl, (((Mod.trans' (HM.out.alloc _) HM4.out (fun i hi hg => by rcases hg with rfl | rfl <;> omega)).trans HM5.out).trans HM6.out).trans HM7.out⟩
end Go.Proofs.Ytimbhkbdmcbodaa
