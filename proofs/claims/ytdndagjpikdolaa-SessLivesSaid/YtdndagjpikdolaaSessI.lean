/-
  Step and Life, the program's and the reference's: one function each.
-/
import Derived.Test.YtdndagjpikdolaaSessH
namespace Go.Proofs.Ytdndagjpikdolaa
open Go.RowKit
set_option linter.unusedVariables false

theorem i64_and3 (n : Int) : bits .and .i64 n 3 = n % 4 := by
  have h3 : (BitVec.ofInt 64 3).toNat = 2 ^ 2 - 1 := by decide
  have key : (BitVec.ofInt 64 n &&& BitVec.ofInt 64 3).toNat = (n % ((2 ^ 64 : Nat) : Int)).toNat % 2 ^ 2 := by
    rw [BitVec.toNat_and, BitVec.toNat_ofInt, h3, Nat.and_two_pow_sub_one_eq_mod]
  show IntKind.i64.wrap ((BitVec.ofInt 64 n &&& BitVec.ofInt 64 3).toNat : Nat) = n % 4
  rw [key, IntKind.wrap_i64]
  omega
theorem and3_bd (n : Int) : 0 ≤ bits .and .i64 n 3 ∧ bits .and .i64 n 3 ≤ 3 := by rw [i64_and3]; omega
def stepF (proto state flags : Int) (inn : Bool) : Int :=
  if proto = 6 then
    if bits .and .u8 flags 4 = 0 then
      if (if bits .and .u8 flags 1 = 0 then bits .and .i64 state 12 else if inn = true then bits .or .i64 (bits .and .i64 state 12) 4 else bits .or .i64 (bits .and .i64 state 12) 8) = 12 then
        bits .or .i64 2 (if bits .and .u8 flags 1 = 0 then bits .and .i64 state 12 else if inn = true then bits .or .i64 (bits .and .i64 state 12) 4 else bits .or .i64 (bits .and .i64 state 12) 8)
      else bits .or .i64 (if bits .and .i64 state 3 = 0 ∧ inn = false then 1 else if 2 < bits .and .i64 state 3 then 2 else bits .and .i64 state 3) (if bits .and .u8 flags 1 = 0 then bits .and .i64 state 12 else if inn = true then bits .or .i64 (bits .and .i64 state 12) 4 else bits .or .i64 (bits .and .i64 state 12) 8)
    else bits .or .i64 2 (bits .and .i64 state 12)
  else 1
theorem step_ok (proto state flags : Int) (inn : Bool) (w : World) : Calls Try.prog 10 #[.int .u8 proto, .int .i64 state, .int .u8 flags, .bool inn] w fun e w' => e = .returned (.int .i64 (stepF proto state flags inn)) ∧ w' = w := by
  go_enter Try.func10, Try.ntmps10
  go_wp2
  all_goals
    go_ret
    refine ⟨?_, rfl⟩
    have hb := and3_bd state
    simp_all [stepF]
    all_goals first | (rw [if_neg (by omega)]; done) | (rw [if_pos (by omega)]; done) | (rw [if_neg (fun h => absurd h.1 (by omega))]; done)
theorem refStep_ok (proto state flags : Int) (inn : Bool) (w : World) : Calls Try.prog 11 #[.int .u8 proto, .int .i64 state, .int .u8 flags, .bool inn] w fun e w' => e = .returned (.int .i64 (stepF proto state flags inn)) ∧ w' = w := by
  go_enter Try.func11, Try.ntmps11
  go_wp2
  all_goals
    go_ret
    refine ⟨?_, rfl⟩
    have hb := and3_bd state
    simp_all [stepF]
    all_goals first | (rw [if_neg (by omega)]; done) | (rw [if_pos (by omega)]; done) | (rw [if_neg (fun h => absurd h.1 (by omega))]; done)
def lifeF (proto state : Int) : Int := if proto = 1 then 6 else if proto = 17 then 30 else if proto = 6 then (if bits .and .i64 state 3 = 0 then 4 else if bits .and .i64 state 3 = 1 then 200 else 2) else 0
theorem life_ok (proto state : Int) (w : World) : Calls Try.prog 12 #[.int .u8 proto, .int .i64 state] w fun e w' => e = .returned (.int .u32 (lifeF proto state)) ∧ w' = w := by
  go_enter Try.func12, Try.ntmps12
  go_wp2
  all_goals
    go_ret
    refine ⟨?_, rfl⟩
    simp_all [lifeF]
theorem refLife_ok (proto state : Int) (w : World) : Calls Try.prog 13 #[.int .u8 proto, .int .i64 state] w fun e w' => e = .returned (.int .u32 (lifeF proto state)) ∧ w' = w := by
  go_enter Try.func13, Try.ntmps13
  go_wp2
  all_goals
    go_ret
    refine ⟨?_, rfl⟩
    simp_all [lifeF]
end Go.Proofs.Ytdndagjpikdolaa
