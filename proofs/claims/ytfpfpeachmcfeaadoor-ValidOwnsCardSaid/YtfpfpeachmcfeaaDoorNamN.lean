/-
  addr.Name at short texts of small letters (utf8.ValidString at short texts below 128).
-/
import Derived.Test.YtfpfpeachmcfeaaDoorChkD
import Derived.Laws.RangeString
namespace Go.Proofs.YtfpfpeachmcfeaaDoor
open Go.RowKit
set_option linter.unusedVariables false
set_option linter.unusedSimpArgs false
attribute [local go_sem ↓] Go.wp_at_zero Go.wp_at_succ

def strLen : Value → Nat | .string t => t.size | _ => 0
/-- All its bytes are small letters. -/
def Low (s : ByteArray) : Prop := ∀ i (h : i < s.size), 97 ≤ (s[i]'h).toNat ∧ (s[i]'h).toNat ≤ 122
theorem Low.tail {s : ByteArray} (h : Low s) : Low (s.extract 1 s.size) := by
  intro i hi
  have hi' : 1 + i < s.size := by rw [ByteArray.size_extract] at hi; omega
  rw [ByteArray.getElem_extract]
  exact h (1 + i) hi'
set_option maxRecDepth 100000 in
set_option maxHeartbeats 4000000 in
theorem validShort_ok (s : ByteArray) (hs : s.size ≤ 9) (ha : Low s) (w : World) : Calls Tryd.prog 60 #[.string s] w fun e w' => e = .returned (.bool true) ∧ w' = w := by
  go_enter Tryd.func60, Tryd.ntmps60
  go_wp2
  go_loopw [0] (fun v wr => ∃ t : ByteArray, v = .string t ∧ t.size ≤ 9 ∧ Low t ∧ w = wr) (fun v _ => strLen v)
  case atStart => exact ⟨s, rfl, hs, ha, rfl⟩
  case round =>
    obtain ⟨t, rfl, ht, hlow, rfl⟩ := hrel
    by_cases h0 : 0 < t.size
    · have h0z : (0 : Int) < (t.size : Int) := by omega
      obtain ⟨x0, hx0⟩ : ∃ x0, t[0]'h0 = x0 := ⟨_, rfl⟩
      have hx := (hlow 0 h0).2
      rw [hx0] at hx
      have hxz : (x0.toNat : Int) < 128 := by omega
      have h1z : (1 : Int) ≤ (t.size : Int) := by omega
      have z1 : (t.extract 1 t.size).size = t.size - 1 := by rw [ByteArray.size_extract]; omega
      have hlow' := hlow.tail
      obtain ⟨t1, ht1⟩ : ∃ t1, t1 = t.extract 1 t.size := ⟨_, rfl⟩
      rw [← ht1] at z1 hlow'
      have h8 : ¬ (8 : Int) < (t1.size : Int) := by omega
      have HL := Lib.hid hlow'
      clear hlow hlow' hs ha hx
      go_wp2
      exact ⟨⟨t1, by rw [ht1], by omega, HL.out, by first | trivial | rfl⟩, by rw [← ht1]; simp only [strLen]; omega⟩
    · have h0z : ¬ (0 : Int) < (t.size : Int) := by omega
      clear hs ha hlow
      go_wp2
      go_ret
      exact ⟨rfl, rfl⟩

set_option maxRecDepth 100000 in
set_option maxHeartbeats 4000000 in
theorem nameShort_ok (s : ByteArray) (h0 : 0 < s.size) (hs : s.size ≤ 9) (ha : Low s) (w : World) : Calls Tryd.prog 43 #[.string s] w (Says true w) := by
  have HV := Lib.hid (validShort_ok s hs ha)
  have hne : s.toList ≠ [] := by
    intro e
    have h1 : s.toList.length = s.size := by rw [ByteArray.toList_eq]; rfl
    rw [e] at h1
    simp at h1
    omega
  have h32 : (s.size : Int) ≤ 32 := by omega
  unfold Says
  go_enter Tryd.func43, Tryd.ntmps43
  go_wp2
  go_loopw [2] (fun v wr => ∃ pos : Nat, wr = w.iter s pos) (fun _ w' => s.size - w'.iterPos w.heap.size)
  case atStart => exact ⟨0, rfl⟩
  case round =>
    obtain ⟨pos, rfl⟩ := hrel
    by_cases hp : pos < s.size
    · have hx := ha pos hp
      have hnx : ∀ ty, (Instr.next (.pointer (some ⟨w.heap.size, 0, none⟩)) true ty).run Tryd.prog (w.iter s pos) = _ := fun ty => run_next_ascii w s pos ty hp (by omega)
      obtain ⟨x, hxx⟩ : ∃ x, x = (s[pos]'hp).toNat := ⟨_, rfl⟩
      rw [← hxx] at hx
      simp only [← hxx] at hnx
      have g1 : ¬ (x : Int) < 97 := by omega
      have g2 : ¬ (122 : Int) < x := by omega
      have g3 : (48 : Int) ≤ x := by omega
      have g4 : ¬ (x : Int) ≤ 57 := by omega
      have g5 : ¬ (x : Int) = 45 := by omega
      clear ha hxx hx
      go_wp2
      exact ⟨⟨pos + 1, rfl⟩, by simp; omega⟩
    · have hnx : ∀ ty, (Instr.next (.pointer (some ⟨w.heap.size, 0, none⟩)) true ty).run Tryd.prog (w.iter s pos) = _ := fun ty => run_next_end w s pos ty hp
      clear ha
      go_wp2_with (go_at_call 60; refine (HV.out _).mono ?_; rintro e w1 ⟨rfl, hw⟩; have hw' := hw.symm; clear hw; subst hw')
      go_ret
      refine ⟨?_, (Mod.refl _ _).alloc _⟩
      show Ending.returned (.bool (!s.toList.isEmpty)) = _
      cases he : s.toList with
      | nil => exact absurd he hne
      | cons a b => rfl

end Go.Proofs.YtfpfpeachmcfeaaDoor
