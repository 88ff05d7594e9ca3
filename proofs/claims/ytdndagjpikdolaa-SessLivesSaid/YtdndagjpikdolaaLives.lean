/-
  SessLives: the walk: a segment's life goes from open to up to closing, and never back.
  Conditions: none.
-/
import Derived.Test.YtdndagjpikdolaaSessI
import Derived.Deep.DeepCutAuto
import Derived.Deep.QuietTactic
import Derived.BigQuiet
import Derived.Deep.LoopGhost
namespace Go.Proofs.Ytdndagjpikdolaa
open Go.RowKit
set_option linter.unusedVariables false

/-- A state: its lowest bits and who has ended. -/
def stN (b : Int) (i o : Bool) : Int := b + (if i then 4 else 0) + (if o then 8 else 0)

def nX (i r q sd : Bool) : Bool := i || (!r && q && sd)
def nY (o r q sd : Bool) : Bool := o || (!r && q && !sd)
def nB (b : Int) (i o r q sd : Bool) : Int := bif r || (nX i r q sd && nY o r q sd) then 2 else bif b == 0 && !sd then 1 else b
def nS (b : Int) (i o r q sd : Bool) : Int := stN (nB b i o r q sd) (nX i r q sd) (nY o r q sd)

theorem stN_and3 (b : Int) (i o : Bool) (hb : b = 0 ∨ b = 1 ∨ b = 2) : bits .and .i64 (stN b i o) 3 = b := by
  rcases hb with rfl | rfl | rfl <;> cases i <;> cases o <;> decide
theorem stN_and4 (b : Int) (i o : Bool) (hb : b = 0 ∨ b = 1 ∨ b = 2) : bits .and .i64 (stN b i o) 4 = if i then 4 else 0 := by
  rcases hb with rfl | rfl | rfl <;> cases i <;> cases o <;> decide
theorem stN_and8 (b : Int) (i o : Bool) (hb : b = 0 ∨ b = 1 ∨ b = 2) : bits .and .i64 (stN b i o) 8 = if o then 8 else 0 := by
  rcases hb with rfl | rfl | rfl <;> cases i <;> cases o <;> decide

theorem nB_is (b : Int) (i o r q sd : Bool) (hb : b = 0 ∨ b = 1 ∨ b = 2) : nB b i o r q sd = 0 ∨ nB b i o r q sd = 1 ∨ nB b i o r q sd = 2 := by
  rcases hb with rfl | rfl | rfl <;> revert i o r q sd <;> decide
theorem nS_and3 (b : Int) (i o r q sd : Bool) (hb : b = 0 ∨ b = 1 ∨ b = 2) : bits .and .i64 (nS b i o r q sd) 3 = nB b i o r q sd := stN_and3 _ _ _ (nB_is _ _ _ _ _ _ hb)
theorem nS_and4 (b : Int) (i o r q sd : Bool) (hb : b = 0 ∨ b = 1 ∨ b = 2) : (bits .and .i64 (nS b i o r q sd) 4 != 0) = nX i r q sd := by
  rw [nS, stN_and4 _ _ _ (nB_is _ _ _ _ _ _ hb)]
  cases nX i r q sd <;> rfl
theorem nS_and8 (b : Int) (i o r q sd : Bool) (hb : b = 0 ∨ b = 1 ∨ b = 2) : (bits .and .i64 (nS b i o r q sd) 8 != 0) = nY o r q sd := by
  rw [nS, stN_and8 _ _ _ (nB_is _ _ _ _ _ _ hb)]
  cases nY o r q sd <;> rfl

theorem step6 (b : Int) (i o : Bool) (fl : Int) (r q sd : Bool) (hb : b = 0 ∨ b = 1 ∨ b = 2) (hr : (bits .and .u8 fl 4 != 0) = r) (hq : (bits .and .u8 fl 1 != 0) = q) :
    stepF 6 (stN b i o) fl sd = nS b i o r q sd := by
  subst hr hq
  unfold stepF
  by_cases h4 : bits .and .u8 fl 4 = 0 <;> by_cases h1 : bits .and .u8 fl 1 = 0 <;> simp only [h4, h1, bne, if_true, if_false, beq_self_eq_true, beq_iff_eq, Bool.not_true, Bool.not_eq_true, show ∀ (n : Int), ¬ n = 0 → (n == 0) = false from fun n h => by simp [h], not_false_eq_true, Bool.not_false]
  all_goals (rcases hb with rfl | rfl | rfl <;> cases i <;> cases o <;> cases sd <;> decide)

set_option maxRecDepth 100000 in
set_option maxHeartbeats 4000000 in
theorem lives_walk {S : Nat → Prop} (A : Option Addr) (c n : Nat) (zs : List Int) (w : World) (hx : RowAt S w A (zs.map fun z => .int .u16 z)) (hn : zs.length = n) (hl : n ≤ 9223372036854775807) :
    Calls Try.prog 4 #[.slice A n c] w fun e w' => e = .returned (.bool true) ∧ Mod No w w' := by
  have HKN := Lib.hid (known_ok w)
  have HN := Lib.hid hn
  clear hn
  by_cases hbig : 100 < n
  · clear hx
    go_enter Try.func4, Try.ntmps4
    go_wp2_with (go_at_call 9; refine HKN.out.mono ?_; rintro e w1 ⟨rfl, hm⟩; have HM := Lib.hid hm; clear hm)
    go_ret
    exact ⟨rfl, HM.out⟩
  · have HX := Lib.hid (hx.mono (S' := fun b => S b ∧ b < w.heap.size) (fun b hb hs => ⟨hs, hb⟩))
    clear hx
    go_enter Try.func4, Try.ntmps4
    go_wp2_with (go_at_call 9; refine HKN.out.mono ?_; rintro e w1 ⟨rfl, hm⟩; have HM := Lib.hid hm; clear hm)
    go_loopw [3, 4, 5, 6] (fun st ii oo i wr => ∃ (k : Nat) (b : Int) (x y : Bool), i = .int .i64 k ∧ k ≤ n ∧ st = .int .i64 (stN b x y) ∧ ii = .bool x ∧ oo = .bool y ∧ (b = 0 ∨ b = 1 ∨ b = 2) ∧ Mod No w wr) (fun _ _ _ i _ => n - (intOf i).toNat)
    case atStart => exact ⟨0, 0, false, false, rfl, by omega, rfl, rfl, rfl, .inl rfl, HM.out⟩
    case round =>
      obtain ⟨k, b, x, y, rfl, hk, rfl, rfl, rfl, hb, hm⟩ := hrel
      have HM1 := Lib.hid hm
      by_cases hlt : k < n
      · obtain ⟨z, hz⟩ : ∃ z, zs[k]? = some z := ⟨_, List.getElem?_eq_getElem (by have := HN.out; omega)⟩
        have hne : (zs.map fun z => Value.int .u16 z) ≠ [] := by
          intro e
          have e1 : zs.length = 0 := by simpa using congrArg List.length e
          have e2 := HN.out
          omega
        obtain ⟨bb, o, rfl, _, _, hc⟩ := (HX.out.keeps (hm.keeps (fun _ _ _ => id))).open hne
        have hx0 := hc k (.int .u16 z) (by simp [hz])
        clear hc hm hz
        have p1 : (0:Int) ≤ k := by omega
        have p2 : (k:Int) < n := by omega
        have HB := Lib.hid hb
        go_wp2_with fail
        go_quiet (fail)
        generalize (bits .and .u16 z 256 != 0) = sd
        generalize z % 256 = f
        have HM2 := Lib.hid (HM1.out.drewN nq)
        obtain ⟨r, hr⟩ : ∃ r, (bits .and .u8 f 4 != 0) = r := ⟨_, rfl⟩
        obtain ⟨q, hq⟩ : ∃ q, (bits .and .u8 f 1 != 0) = q := ⟨_, rfl⟩
        have HS : ∀ w, Calls Try.prog 10 #[.int .u8 6, .int .i64 (stN b x y), .int .u8 f, .bool sd] w fun e w' => e = .returned (.int .i64 (nS b x y r q sd)) ∧ w' = w := fun w => by
          have h := step_ok 6 (stN b x y) f sd w
          rw [step6 b x y f r q sd HB.out hr hq] at h
          exact h
        have HS' := Lib.hid HS
        clear HS
        have g3 := stN_and3 b x y HB.out
        have G3 := nS_and3 b x y r q sd HB.out
        have G4 := nS_and4 b x y r q sd HB.out
        have G8 := nS_and8 b x y r q sd HB.out
        have GB := Lib.hid (nB_is b x y r q sd HB.out)
        have GN : Hid (nS b x y r q sd = stN (nB b x y r q sd) (nX x r q sd) (nY y r q sd)) := Lib.hid rfl
        have hb2 : ¬ (2 < b) := by have := HB.out; omega
        generalize nS b x y r q sd = ns at *
        cases r
        · clear hb2 g3
          have g3 := Lib.hid (stN_and3 b x y HB.out)
          cases q <;> cases sd <;> rcases hb with rfl | rfl | rfl <;> cases x <;> cases y
          all_goals
            dsimp only [nX, nY, nB, Bool.and_true, Bool.true_and, Bool.and_false, Bool.false_and, Bool.or_true, Bool.true_or, Bool.or_false, Bool.false_or, Bool.not_true, Bool.not_false, cond_true, cond_false, Int.reduceBEq] at G3 G4 G8 GN
            have g3' := g3.out
            go_wp2_with (go_at_call 10; refine (HS'.out _).mono ?_; rintro e w' ⟨rfl, rfl⟩)
            exact ⟨⟨k + 1, _, _, _, by go_num, by omega, congrArg _ GN.out, rfl, rfl, by decide, HM2.out⟩, by simp [intOf]; omega⟩
        · have ex : nX x true q sd = x := by simp [nX]
          have ey : nY y true q sd = y := by simp [nY]
          have eb : nB b x y true q sd = 2 := by simp [nB]
          rw [ex] at G4
          rw [ey] at G8
          rw [eb] at G3
          rw [eb, ex, ey] at GN
          clear hb ex ey eb
          cases q
          all_goals
            go_wp2_with (go_at_call 10; refine (HS'.out _).mono ?_; rintro e w' ⟨rfl, rfl⟩)
            all_goals (first | exact ⟨⟨k + 1, _, _, _, by go_num, by omega, congrArg _ GN.out, rfl, rfl, by decide, HM2.out⟩, by simp [intOf]; omega⟩ | trace_state)
      · obtain rfl : k = n := by omega
        clear hm
        go_wp2_with fail
        go_ret
        exact ⟨rfl, HM1.out⟩

end Go.Proofs.Ytdndagjpikdolaa
