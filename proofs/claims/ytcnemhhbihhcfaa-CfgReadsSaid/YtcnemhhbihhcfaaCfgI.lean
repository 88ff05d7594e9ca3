/-
  Package cfg, ninth part: is a tenant light; a change that takes a name away, written; one read.
-/
import Derived.Test.YtcnemhhbihhcfaaCfgH
namespace Go.Proofs.Ytcnemhhbihhcfaa
open Go.RowKit
set_option linter.unusedVariables false

def light (t : Ten) : Bool := decide (t.name.length ≤ 300) && decide (t.pool.length ≤ 300) && decide (t.statics.length ≤ 300) && decide (t.twices.length ≤ 300)
set_option maxRecDepth 100000 in
theorem light_ok {S : Nat → Prop} {w : World} (a : Ten) (va : Value) (ha : TenV S w a va) :
    Calls Try.prog 10 #[va] w fun e w' => e = .returned (.bool (light a)) ∧ Mod No w w' := by
  obtain ⟨P, p, Q, q, R, r, rfl, h1, h2, h3⟩ := ha.val
  obtain ⟨CA, hCA⟩ : ∃ CA, CA = a.cells (.slice P a.pool.length p) (.slice Q a.statics.length q) (.slice R a.twices.length r) := ⟨_, rfl⟩
  have bA := box_ten CA (by rw [hCA]; rfl)
  rw [← hCA]
  have c0 : CA[0]? = some (Value.string (str a.name)) := by rw [hCA]; rfl
  have c1 : CA[23]? = some (Value.slice P a.pool.length p) := by rw [hCA]; rfl
  have c2 : CA[27]? = some (Value.slice Q a.statics.length q) := by rw [hCA]; rfl
  have c3 : CA[28]? = some (Value.slice R a.twices.length r) := by rw [hCA]; rfl
  have hs : (str a.name).size = a.name.length := by simp [str, ByteArray.size]
  have l0 : decide ((a.name.length : Int) ≤ 300) = decide (a.name.length ≤ 300) := by rw [decide_eq_decide]; omega
  have l1 : decide ((a.pool.length : Int) ≤ 300) = decide (a.pool.length ≤ 300) := by rw [decide_eq_decide]; omega
  have l2 : decide ((a.statics.length : Int) ≤ 300) = decide (a.statics.length ≤ 300) := by rw [decide_eq_decide]; omega
  have l3 : decide ((a.twices.length : Int) ≤ 300) = decide (a.twices.length ≤ 300) := by rw [decide_eq_decide]; omega
  have hl : light a = (decide (a.name.length ≤ 300) && decide (a.pool.length ≤ 300) && decide (a.statics.length ≤ 300) && decide (a.twices.length ≤ 300)) := rfl
  rw [hl]
  generalize decide (a.name.length ≤ 300) = b0 at l0 ⊢
  generalize decide (a.pool.length ≤ 300) = b1 at l1 ⊢
  generalize decide (a.statics.length ≤ 300) = b2 at l2 ⊢
  generalize decide (a.twices.length ≤ 300) = b3 at l3 ⊢
  clear ha h1 h2 h3 hCA hl
  cases b0
  · go_enter Try.func10, Try.ntmps10
    go_wp2
    go_ret
    exact ⟨by simp, (Mod.refl _ _).alloc _⟩
  cases b1
  · go_enter Try.func10, Try.ntmps10
    go_wp2
    go_ret
    exact ⟨by simp, (Mod.refl _ _).alloc _⟩
  cases b2
  · go_enter Try.func10, Try.ntmps10
    go_wp2
    go_ret
    exact ⟨by simp, (Mod.refl _ _).alloc _⟩
  cases b3
  all_goals
    go_enter Try.func10, Try.ntmps10
    go_wp2
    go_ret
    exact ⟨by simp, (Mod.refl _ _).alloc _⟩

set_option maxRecDepth 100000 in
theorem box_chg (CA : Array Value) (h : CA.size = 35) : ∀ W, (Instr.box 38 (.agg CA)).run Try.prog W = .ok (.pointer (some ⟨W.heap.size, 0, none⟩)) (W.alloc (.cells CA 38)) := by
  intro W
  go_simp
/-- A name's bytes behind its length. -/
def nameB (l : List UInt8) : List UInt8 := be 1 (min l.length 255) ++ l.take 255
set_option maxRecDepth 100000 in
theorem change_name_ok {w : World} (CA : Array Value) (hsz : CA.size = 35) (l : List UInt8) (hl : l.length ≤ 100000000) (c0 : CA[0]? = some (Value.bool false)) (c1 : CA[1]? = some (Value.string (str l))) :
    Calls Try.prog 15 #[.agg CA] w fun e w' => ∃ v, e = .returned v ∧ w'.ownsRow w.heap.size 5 1 v (0 :: nameB l).length (bcells (0 :: nameB l)) ∧ Mod No w w' := by
  have bA := box_chg CA hsz
  obtain ⟨W, hW⟩ : ∃ W, W = ((w.alloc (.cells CA 38)).alloc (.cells #[.int .u8 0] 5)).alloc (.cells #[.slice (some ⟨w.heap.size + 1, 0, none⟩) 1 1, .bool false, .int .i64 0, .bool false] 73) := ⟨_, rfl⟩
  have hmW : Mod No w W := by rw [hW]; exact (((Mod.refl _ _).alloc _).alloc _).alloc _
  have hX : W.heap[w.heap.size]? = some (.cells CA 38 (0, 0)) := by rw [hW]; exact at30 w _ _ _
  have hr : W.heap[w.heap.size + 1]? = some (.cells #[.int .u8 0] 5 (0, 0)) := by rw [hW]; exact at31 w _ _ _
  have hC : W.heap[w.heap.size + 1 + 1]? = some (.cells #[.slice (some ⟨w.heap.size + 1, 0, none⟩) 1 1, .bool false, .int .i64 0, .bool false] 73 (0, 0)) := by rw [hW]; exact at32 w _ _ _
  have hwr : Wr W (w.heap.size + 1 + 1) w.heap.size [0] (.slice (some ⟨w.heap.size + 1, 0, none⟩) 1 1) := ⟨hC, by
    refine ⟨rfl, .inr ⟨w.heap.size + 1, 1, #[.int .u8 0], rfl, Nat.le_succ _, hr, Nat.le_refl _, by decide, rfl, rfl⟩⟩⟩
  have HN := name_wr hwr hmW.size (by simp) l hl (T := w.heap.size) (o := 1) hX c1 (by omega) (by simp [Value.ownBlock])
  rw [hW] at HN
  have HN := Lib.hid HN
  have HM := Lib.hid hmW
  rw [hW] at HM
  clear hmW hX hr hC hwr hW W hsz
  go_enter Try.func15, Try.ntmps15
  go_wp2_with (first | (go_at_call 36; refine HN.out.mono ?_; rintro e w1 ⟨rfl, v', hw1, _, hm1, _⟩; obtain ⟨x1, y1, z1, rfl⟩ := own_slice hw1.own; have d0 : w1.cell? ⟨w.heap.size + 1 + 1, 0, none⟩ = some (.slice x1 y1 z1) := (blk_cell hw1.blk 0).trans rfl; have HW := Lib.hid (And.intro hw1 hm1); clear hw1 hm1) | fail)
  go_ret
  obtain ⟨hw1, hm1⟩ := HW.out
  refine ⟨_, rfl, ?_, HM.out.trans' hm1 (fun i hi hg => ?_)⟩
  · have := hw1.own
    simp only [List.append_assoc] at this
    exact this
  · rcases hg with h | h | h
    · omega
    · simp [Value.ownBlock] at h; omega
    · omega

end Go.Proofs.Ytcnemhhbihhcfaa
