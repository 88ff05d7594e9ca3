/-
  known: the chapter's example.
-/
import Derived.Test.YtlbdpofgcipjjaaWhJ
namespace Go.Proofs.Ytlbdpofgcipjjaa
open Go.RowKit Go.MapKept Go.ChangeMaps
set_option linter.unusedVariables false
attribute [local go_sem ↓] Go.wp_at_zero Go.wp_at_succ

theorem Mod.own {F : Nat → Prop} {w a b : World} (h : Mod No w a) (k : Mod F a b) (hF : ∀ j, F j → w.heap.size ≤ j) : Mod No w b := h.trans' k (fun i hi f => by have := hF i f; omega)
theorem known_ok (w : World) : Calls Try.prog 7 #[] w fun e w' => e = .returned (.bool true) ∧ Mod No w w' := by
  have hn := newW w (now := 0) (by omega)
  simp only [Int.natCast_zero] at hn
  go_enter Try.func7, Try.ntmps7
  go_upto_region 4 with (go_at_call 8; refine hn.mono ?_; rintro e w1 ⟨rfl, ⟨F, hW, hF⟩, hm⟩)
  have hs := setW hW (id := 7) (by unfold In64; omega) (a := 2) (by omega)
  have e1 : rset [] 7 2 = [((7 : Int), (2 : Nat))] := by decide
  rw [e1] at hs
  simp only [Int.cast_ofNat_Int] at hs
  clear hn hW
  have HF := Lib.hid hF
  have HM := Lib.hid hm
  clear hF hm
  go_upto_region 5 with (go_at_call 9; refine hs.mono ?_; rintro e w2 ⟨rfl, hW, hm⟩)
  have ht := tickW hW (by decide)
  have HM2 := Lib.hid (Mod.own HM.out hm HF.out)
  clear hs hW hm
  go_upto_region 6 with (go_at_call 14; refine ht.mono ?_; rintro e w3 ⟨A1, c1, rfl, hr1, hW, hm⟩)
  have e2 : tdue [((7 : Int), (2 : Nat))] 0 = [] := by decide
  have e3 : trest [((7 : Int), (2 : Nat))] 0 = [(7, 2)] := by decide
  have e4 : tnow 0 = 1 := by decide
  rw [e3, e4] at hW
  simp only [e2, List.length_nil]
  have HM3 := Lib.hid (Mod.own HM2.out hm HF.out)
  have ha := atW hW (id := 7) (by unfold In64; omega)
  have e5 : rat [((7 : Int), (2 : Nat))] 7 = 2 := by decide
  have e6 : rhas [((7 : Int), (2 : Nat))] 7 = true := by decide
  have ht2 := tickW hW (by decide)
  rw [e5, e6] at ha
  simp only [Int.cast_ofNat_Int] at ha
  clear e1 e2 e3 e4 e5 e6 ht hr1 hm hW
  go_upto_region 8 with (first | (go_at_call 16; refine ha.mono ?_; rintro e w3' ⟨rfl, rfl⟩) | (go_at_call 14; refine ht2.mono ?_; rintro e w4 ⟨A2, c2, rfl, hr2, hW, hm⟩))
  have e2 : tdue [((7 : Int), (2 : Nat))] 1 = [(7, 2)] := by decide
  have e3 : trest [((7 : Int), (2 : Nat))] 1 = [] := by decide
  have e4 : tnow 1 = 2 := by decide
  rw [e3, e4] at hW
  rw [e2] at hr2
  simp only [e2, List.length_singleton]
  have HM4 := Lib.hid (Mod.own HM3.out hm HF.out)
  obtain ⟨W5, hW5⟩ : ∃ W5, W5 = w4.alloc (.cells #[.int .i64 7] 3) := ⟨_, rfl⟩
  have m5 : Mod No w4 W5 := by rw [hW5]; exact (Mod.refl _ _).alloc _
  have hr5 : RowAt (fun _ => True) W5 (some ⟨w4.heap.size, 0, none⟩) (([7] : List Int).map fun x => Value.int .i64 x) := .inr ⟨_, 0, rfl, trivial, fun j u hj => by
    rw [Nat.zero_add, hW5, blk_cell (at10 w4 _) j]
    simpa using hj⟩
  have hi := ints_ok (xs := [7]) (ys := [7]) (c := c2) (d := 1) (hr2.keeps (m5.keeps (fun _ _ _ f => f))) hr5 (by decide) (by decide)
  rw [hW5] at hi
  have hWW := fun W6 (h6 : Mod No W5 W6) => hW.mod (m5.trans h6) (fun _ _ f => f)
  have HI := Lib.hid hi
  have HWW := Lib.hid hWW
  have HM5 := Lib.hid m5
  have H5 := Lib.hid hW5
  clear e2 e3 e4 hr2 hW hm ht2 ha hi hWW m5 hr5 hW5
  go_wp2_with (first
    | (go_at_call 13; refine HI.out.mono ?_; rintro e w6 ⟨rfl, h6⟩; have HW6 := Lib.hid (HWW.out w6 (by rw [H5.out]; exact h6)); have HM6 := Lib.hid ((HM4.out.trans (HM5.out)).trans (by rw [H5.out]; exact h6)); clear h6)
    | (go_at_call 19; refine (nowW HW6.out).mono ?_; rintro e w7 ⟨rfl, rfl⟩)
    | (go_at_call 18; refine (countW HW6.out).mono ?_; rintro e w7 ⟨rfl, rfl⟩)
    | (go_at_call 11; refine (dropW HW6.out (id := 7) (by unfold In64; omega)).mono ?_; rintro e w8 ⟨rfl, hW8, hM8⟩))
  go_ret
  exact ⟨rfl, Mod.own HM6.out hM8 HF.out⟩

end Go.Proofs.Ytlbdpofgcipjjaa
