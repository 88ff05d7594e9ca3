/-
  The law WheelEnds, walked.
-/
import Derived.Test.YtlbdpofgcipjjaaWhL
namespace Go.Proofs.Ytlbdpofgcipjjaa
open Go.RowKit Go.MapKept Go.ChangeMaps
set_option linter.unusedVariables false
attribute [local go_sem ↓] Go.wp_at_zero Go.wp_at_succ

theorem nat_of_u32' {z : Int} (h : (Lit.int .u32 z).wf = true) : ∃ n : Nat, z = (n : Int) ∧ n < 4294967296 := by
  have h1 : IntKind.u32.min ≤ z ∧ z ≤ IntKind.u32.max := by simpa [Lit.wf] using h
  simp [IntKind.min, IntKind.max, IntKind.signed, IntKind.bits] at h1
  exact ⟨z.toNat, by omega, by omega⟩
def EndsR (j now : Nat) : Prop := now ≤ 2147483647 ∧ 2147483647 ≤ now + (14 - j)
theorem EndsR.step {j now : Nat} (h : EndsR j now) (hj : j < 14) : EndsR (j + 1) (tnow now) := by
  unfold EndsR tnow at *
  split <;> omega
set_option maxRecDepth 100000 in
set_option maxHeartbeats 2000000 in
theorem ends_walk (w : World) (x : Nat) (hx : x ≤ 255) (A : Option Addr) (c n : Nat) (zs : List Int) (hn : zs.length = n) (hn63 : n ≤ 9223372036854775807) (hrow : RowAt (fun _ => True) w A (zs.map fun z => Value.int .u32 z)) (hok : ∀ z ∈ zs, (Lit.int .u32 z).wf = true) :
    Calls Try.prog 5 #[.int .u8 (x : Int), .slice A n c] w fun e w' => e = .returned (.bool true) ∧ Mod No w w' := by
  have hkn := known_ok w
  have HL := Lib.hid (And.intro hn (And.intro hrow hok))
  clear hn hrow hok
  by_cases h30 : 30 < n
  · have t1 : decide ((30 : Int) < (n : Int)) = true := by simp; omega
    go_enter Try.func5, Try.ntmps5
    go_wp2_with (go_at_call 7; refine hkn.mono ?_; rintro e w1 ⟨rfl, hm⟩)
    go_ret
    exact ⟨rfl, hm⟩
  · have t1 : decide ((30 : Int) < (n : Int)) = false := by simp; omega
    go_enter Try.func5, Try.ntmps5
    go_upto_region 6 with (go_at_call 7; refine hkn.mono ?_; rintro e w1 ⟨rfl, hm⟩)
    obtain ⟨now, hnow⟩ : ∃ now : Nat, (2147483647 : Int) - (x : Int) % 10 = (now : Int) := ⟨(2147483647 - (x : Int) % 10).toNat, by omega⟩
    simp only [hnow]
    have hE : EndsR 0 now := by unfold EndsR; omega
    have hn32 : now < 4294967296 := by omega
    have hnw := newW w1 hn32
    have hn30 : n ≤ 30 := by omega
    have HN := Lib.hid (And.intro hnow hn32)
    clear hnow hn32 h30 t1 hn63 hkn hx
    go_upto_region 7 with (go_at_call 8; refine hnw.mono ?_; rintro e w2 ⟨rfl, ⟨F, hW, hF⟩, hm2⟩)
    have h2 := Two.start hm hW hF hm2
    generalize w2.alloc (.cells #[.slice none 0 0, .int .u32 (now : Int)] 30) = w3 at *
    generalize w1.heap.size + 1 = g at *
    generalize w2.heap.size = gr at *
    clear hW hF hm2 hm hnw
    go_wp2
    go_loopw [8] (fun i wr => ∃ k : Nat, i = .int .i64 k ∧ k ≤ n ∧ ∃ L, L.length ≤ k ∧ Two F w g gr now L now L wr) (fun i _ => n - (intOf i).toNat)
    case atStart => exact ⟨0, rfl, by omega, [], by simp, h2⟩
    case round =>
      obtain ⟨k, rfl, hk, L, hL, hT⟩ := hrel
      clear h2
      by_cases hlt : k < n
      · as_aux_lemma =>
        obtain ⟨hn, hrow, hok⟩ := HL.out
        obtain ⟨z, hz⟩ : ∃ z, zs[k]? = some z := ⟨_, List.getElem?_eq_getElem (by omega)⟩
        obtain ⟨a, rfl, ha⟩ := nat_of_u32' (hok z (List.mem_of_getElem? hz))
        obtain ⟨b, o, rfl, hbs, hbl, hcell⟩ := (hrow.keeps (hT.mod.keeps (fun _ _ _ f => f))).open (by intro f; have := congrArg List.length f; simp at this; subst this; simp at hz)
        have ce := hcell k (.int .u32 (a : Int)) (by simp [hz])
        have hgl := hT.ww.lt hT.ww.gF
        have hbF : ∀ w5, Mod F wr w5 → w5.cell? ⟨b, o + k, none⟩ = some (.int .u32 (a : Int)) := fun w5 h5 => by
          have hbw : b < w.heap.size := by
            rcases hrow with f | ⟨b', o', e', _, hc'⟩
            · have := congrArg List.length f; simp at this; subst this; simp at hz
            · cases e'
              exact World.block_lt_of_cell? _ _ (hc' k (.int .u32 (a : Int)) (by simp [hz]))
          exact h5.cell ce (fun f => by have := hT.own _ f; simp only at this; omega)
        have hid : In64 (k : Int) := by unfold In64; omega
        have hs := setW hT.ww hid ha
        have hok1 := hT.ww.ok
        have hl1 : L.length ≤ 1000000 := by omega
        have hr := fun w5 (h5 : RefW (fun b => ¬ F b ∧ b ≠ gr) w5 gr now L) => ref_set_ok h5 hok1 hl1 (k : Int) a
        have HR := Lib.hid hr
        have HT := Lib.hid hT
        have HB := Lib.hid hbF
        clear hn hrow hok hz hcell hbs hr hT hbF hok1 hl1 hid ha hgl
        go_wp2_with (first
          | (go_at_call 9; refine hs.mono ?_; rintro e w5 ⟨rfl, hW5, hM5⟩; have HT6 := Lib.hid (HT.out.stepW hW5 hM5); have ce5 := HB.out w5 hM5; clear hW5 hM5)
          | (go_at_call 10; refine (HR.out _ HT6.out.rw).mono ?_; rintro e w6 ⟨rfl, hR6, hM6⟩; have HT7 := Lib.hid (HT6.out.stepR hR6 hM6); clear hR6 hM6))
        exact ⟨⟨k + 1, by go_num, by omega, rset L k a, by have := rset_len L k a; omega, HT7.out⟩, by simp [intOf]; omega⟩
      · as_aux_lemma =>
        have hkn : k = n := by omega
        subst hkn
        have HT := Lib.hid hT
        have hL30 : L.length ≤ 30 := by omega
        clear hT
        go_wp2
        go_loopw [9] (fun i wr => ∃ j : Nat, i = .int .i64 j ∧ j ≤ 14 ∧ ∃ now' L', EndsR j now' ∧ L'.length ≤ 30 ∧ Two F w g gr now' L' now' L' wr) (fun i _ => 14 - (intOf i).toNat)
        case atStart => exact ⟨0, rfl, by omega, now, L, hE, hL30, HT.out⟩
        case round =>
          obtain ⟨j, rfl, hj, now', L', hEj, hL', hT'⟩ := hrel
          by_cases hj14 : j < 14
          · as_aux_lemma =>
            have hl1 : L'.length ≤ 1000000 := by omega
            have hs := tickW hT'.ww hl1
            have hr := fun w5 (h5 : RefW (fun b => ¬ F b ∧ b ≠ gr) w5 gr now' L') => tickR h5 hl1
            have hgl := hT'.rw.lt
            have hdl := tdue_len L' now'
            have hi := fun (w6 : World) (A1 A2 : Option Addr) (c1 c2 : Nat) (S1 S2 : Nat → Prop) (r1 : RowAt S1 w6 A1 ((tdue L' now').map fun p => Value.int .i64 p.1)) (r2 : RowAt S2 w6 A2 ((tdue L' now').map fun p => Value.int .i64 p.1)) =>
              ints_ok (w := w6) (A := A1) (B := A2) (c := c1) (d := c2) (S1 := S1) (S2 := S2) (xs := (tdue L' now').map (·.1)) (ys := (tdue L' now').map (·.1)) (by rw [List.map_map]; exact r1) (by rw [List.map_map]; exact r2) (by rw [List.length_map]; omega) (by rw [List.length_map]; omega)
            simp only [List.length_map, decide_true] at hi
            have HR := Lib.hid hr
            have HGL := Lib.hid hgl
            have HI := Lib.hid hi
            have HTT := Lib.hid hT'
            have HEj := Lib.hid hEj
            have HL' := Lib.hid hL'
            clear hr hl1 hdl hi hgl hT' hEj hL' hE hL30
            go_wp2_with (first
              | (go_at_call 14; refine hs.mono ?_; rintro e w5 ⟨A5, c5, rfl, r5, hW5, hM5⟩; have R5 := Lib.hid r5; have HT6 := Lib.hid (HTT.out.stepW hW5 hM5); clear hW5 hM5 r5)
              | (go_at_call 15; refine (HR.out _ HT6.out.rw).mono ?_; rintro e w6 ⟨A6, c6, rfl, r6, hR6, hM6⟩; have R6 := Lib.hid r6; have R56 := Lib.hid (R5.out.keeps (hM6.keeps (fun bb _ hb f => by have := HGL.out; omega))); have HT7 := Lib.hid (HT6.out.stepR hR6 hM6); clear hR6 hM6 r6)
              | (go_at_call 13; refine (HI.out _ _ _ _ _ _ _ R56.out R6.out).mono ?_; rintro e w7 ⟨rfl, h7⟩; have HT8 := Lib.hid (HT7.out.step h7); clear h7))
            exact ⟨⟨j + 1, by go_num, by omega, tnow now', trest L' now', HEj.out.step hj14, by have := trest_len L' now'; have := HL'.out; omega, HT8.out⟩, by simp [intOf]; omega⟩
          · as_aux_lemma =>
            have hj' : j = 14 := by omega
            subst hj'
            have hnl : ((now' : Int) == 2147483647) = true := by
              unfold EndsR at hEj
              simp
              omega
            obtain ⟨A9, c9, hb9, _⟩ := hT'.rw.blk
            have dg0 : wr.cell? ⟨gr, 0, none⟩ = some (.slice A9 L'.length c9) := (blk_cell hb9 0).trans rfl
            obtain ⟨m1, hm1⟩ : ∃ m1, m1 = L'.length := ⟨_, rfl⟩
            have hc1 := fun q => countW (hT'.step ((Mod.refl No wr).drewN q)).ww
            have hc2 := fun q => nowW (hT'.step ((Mod.refl No wr).drewN q)).ww
            rw [← hm1] at hc1 dg0
            have HC1 := Lib.hid hc1
            have HC2 := Lib.hid hc2
            have HTT := Lib.hid hT'
            clear hE hL30 hEj hL' hb9 hc1 hc2 hm1 hT'
            go_wp2
            go_quiet ((first | (go_at_call 18; exact Calls.quiet_of_same (HC1.out _)) | (go_at_call 19; exact Calls.quiet_of_same (HC2.out _))))
            go_wp2
            go_ret
            exact ⟨rfl, HTT.out.mod.drewN _⟩

end Go.Proofs.Ytlbdpofgcipjjaa
