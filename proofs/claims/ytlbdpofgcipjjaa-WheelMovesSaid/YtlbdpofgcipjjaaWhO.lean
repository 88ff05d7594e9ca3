/-
  The law WheelMoves, walked.
-/
import Derived.Test.YtlbdpofgcipjjaaWhN
namespace Go.Proofs.Ytlbdpofgcipjjaa
open Go.RowKit Go.MapKept Go.ChangeMaps
set_option linter.unusedVariables false
attribute [local go_sem ↓] Go.wp_at_zero Go.wp_at_succ

theorem byte_of' {z : Int} (h : (Lit.int .u8 z).wf = true) : ∃ n : Nat, z = (n : Int) ∧ n < 256 := by
  have h1 : IntKind.u8.min ≤ z ∧ z ≤ IntKind.u8.max := by simpa [Lit.wf] using h
  simp [IntKind.min, IntKind.max, IntKind.signed, IntKind.bits] at h1
  exact ⟨z.toNat, by omega, by omega⟩
/-- What is due behind k settings of one number. -/
def mvL (id : Int) (xs : List Nat) : List Due := match xs.getLast? with
  | none => []
  | some a => [(id, 10 + a)]
theorem mv_set (id : Int) (xs : List Nat) (a : Nat) : rset (mvL id xs) id (10 + a) = mvL id (xs ++ [a]) := by
  unfold mvL
  rw [List.getLast?_append]
  cases h : xs.getLast? with
  | none => simp [rset, rdrop, rins]
  | some b => simp [rset, rdrop, rins]
/-- What is due at the clock now, of one number due at 10 + a. -/
def mvT (id : Int) (a now : Nat) : List Due := if now < 10 + a then [(id, 10 + a)] else []
theorem mv_tick (id : Int) (a now : Nat) (h9 : 9 ≤ now) (hn : now < 2147483647) : tnow now = now + 1 ∧ trest (mvT id a now) now = mvT id a (now + 1) ∧ tdue (mvT id a now) now = (if now + 1 = 10 + a then [(id, 10 + a)] else []) := by
  unfold tnow trest tdue mvT rdue rrest
  rw [if_pos hn, if_pos hn, if_pos hn]
  refine ⟨rfl, ?_, ?_⟩
  · by_cases h : now < 10 + a
    · rw [if_pos h]
      by_cases h2 : now + 1 < 10 + a
      · rw [if_pos h2]
        simp [List.dropWhile_cons]
        omega
      · rw [if_neg h2]
        simp [List.dropWhile_cons]
        omega
    · rw [if_neg h, if_neg (by omega)]
      rfl
  · by_cases h : now < 10 + a
    · rw [if_pos h]
      by_cases h2 : now + 1 = 10 + a
      · rw [if_pos h2]
        simp [List.takeWhile_cons]
        omega
      · rw [if_neg h2]
        simp [List.takeWhile_cons]
        omega
    · rw [if_neg h, if_neg (by omega)]
      rfl
/-- One wheel; all its blocks are new. -/
structure One (F : Nat → Prop) (w0 : World) (g : Nat) (now : Nat) (L : List Due) (w : World) : Prop where
  ww : WW F w g now L
  mod : Mod No w0 w
  own : ∀ j, F j → w0.heap.size ≤ j
section
variable {F : Nat → Prop} {w0 w w' : World} {g now now' : Nat} {L L' : List Due}
theorem One.stepW (h : One F w0 g now L w) (hW : WW F w' g now' L') (hm : Mod F w w') : One F w0 g now' L' w' :=
  ⟨hW, h.mod.own hm h.own, h.own⟩
theorem One.step (h : One F w0 g now L w) (hm : Mod No w w') : One F w0 g now L w' :=
  ⟨h.ww.mod hm (fun _ _ f => f), h.mod.trans hm, h.own⟩
end
set_option maxRecDepth 100000 in
set_option maxHeartbeats 2000000 in
theorem moves_walk (w : World) (id : Int) (hid : In64 id) (A : Option Addr) (c n : Nat) (zs : List Int) (hn : zs.length = n) (hn63 : n ≤ 9223372036854775807) (hrow : RowAt (fun _ => True) w A (zs.map fun z => Value.int .u8 z)) (hok : ∀ z ∈ zs, (Lit.int .u8 z).wf = true) :
    Calls Try.prog 6 #[.int .i64 id, .slice A n c] w fun e w' => e = .returned (.bool true) ∧ Mod No w w' := by
  have hkn := known_ok w
  have HL := Lib.hid (And.intro hn (And.intro hrow hok))
  have HID := Lib.hid hid
  clear hn hrow hok hid
  by_cases h0 : n = 0
  · have t0 : ((n : Int) == 0) = true := by simpa using h0
    go_enter Try.func6, Try.ntmps6
    go_wp2_with (go_at_call 7; refine hkn.mono ?_; rintro e w1 ⟨rfl, hm⟩)
    go_ret
    exact ⟨rfl, hm⟩
  have t0 : ((n : Int) == 0) = false := by simpa using h0
  by_cases h40 : 40 < n
  · have t1 : decide ((40 : Int) < (n : Int)) = true := by simp; omega
    go_enter Try.func6, Try.ntmps6
    go_wp2_with (go_at_call 7; refine hkn.mono ?_; rintro e w1 ⟨rfl, hm⟩)
    go_ret
    exact ⟨rfl, hm⟩
  · have t1 : decide ((40 : Int) < (n : Int)) = false := by simp; omega
    go_enter Try.func6, Try.ntmps6
    go_upto_region 5 with (go_at_call 7; refine hkn.mono ?_; rintro e w1 ⟨rfl, hm⟩)
    have hnw := newW w1 (now := 9) (by omega)
    simp only [Int.cast_ofNat_Int] at hnw
    have hn40 : n ≤ 40 := by omega
    go_upto_region 6 with (go_at_call 8; refine hnw.mono ?_; rintro e w2 ⟨rfl, ⟨F, hW, hF⟩, hm2⟩)
    have h2 : One F w (w1.heap.size + 1) 9 [] w2 := ⟨hW, hm.trans hm2, fun j hj => by have := hF j hj; have := hm.size; omega⟩
    generalize w1.heap.size + 1 = g at *
    clear hW hF hm2 hm hnw hkn hn63 h40 t1
    go_wp2
    go_loopw [6] (fun i wr => ∃ k : Nat, i = .int .i64 k ∧ k ≤ n ∧ One F w g 9 (mvL id ((zs.map Int.toNat).take k)) wr) (fun i _ => n - (intOf i).toNat)
    case atStart => exact ⟨0, rfl, by omega, h2⟩
    case round =>
      obtain ⟨k, rfl, hk, hT⟩ := hrel
      clear h2
      by_cases hlt : k < n
      · as_aux_lemma =>
        obtain ⟨hn, hrow, hok⟩ := HL.out
        obtain ⟨z, hz⟩ : ∃ z, zs[k]? = some z := ⟨_, List.getElem?_eq_getElem (by omega)⟩
        obtain ⟨a, rfl, ha⟩ := byte_of' (hok z (List.mem_of_getElem? hz))
        obtain ⟨b, o, rfl, hbs, hbl, hcell⟩ := (hrow.keeps (hT.mod.keeps (fun _ _ _ f => f))).open (by intro f; have := congrArg List.length f; simp at this; subst this; simp at hz)
        have ce := hcell k (.int .u8 (a : Int)) (by simp [hz])
        have hs := setW hT.ww HID.out (a := 10 + a) (by omega)
        simp only [Int.natCast_add, Int.cast_ofNat_Int] at hs
        rw [mv_set] at hs
        have e1 : (zs.map Int.toNat).take k ++ [a] = (zs.map Int.toNat).take (k + 1) := by
          have h9 : (zs.map Int.toNat)[k]? = some a := by simp [hz]
          obtain ⟨q1, q2⟩ := List.getElem?_eq_some_iff.1 h9
          rw [List.take_succ_eq_append_getElem q1, q2]
        rw [e1] at hs
        have HT := Lib.hid hT
        clear hn hrow hok hz hcell hbs hT e1
        go_wp2_with (go_at_call 9; refine hs.mono ?_; rintro e w5 ⟨rfl, hW5, hM5⟩; have HT6 := Lib.hid (HT.out.stepW hW5 hM5); clear hW5 hM5)
        exact ⟨⟨k + 1, by go_num, by omega, HT6.out⟩, by simp [intOf]; omega⟩
      · as_aux_lemma =>
        have hkn : k = n := by omega
        subst hkn
        obtain ⟨hn, hrow, hok⟩ := HL.out
        obtain ⟨m, rfl⟩ : ∃ m, k = m + 1 := ⟨k - 1, by omega⟩
        obtain ⟨z, hz⟩ : ∃ z, zs[m]? = some z := ⟨_, List.getElem?_eq_getElem (by omega)⟩
        obtain ⟨a, rfl, ha⟩ := byte_of' (hok z (List.mem_of_getElem? hz))
        have hL0 : mvL id ((zs.map Int.toNat).take (m + 1)) = mvT id a 9 := by
          have h9 : (zs.map Int.toNat)[m]? = some a := by simp [hz]
          obtain ⟨q1, q2⟩ := List.getElem?_eq_some_iff.1 h9
          rw [List.take_succ_eq_append_getElem q1, q2]
          unfold mvL mvT
          rw [List.getLast?_append]
          simp
          omega
        rw [hL0] at hT
        obtain ⟨b, o, rfl, hbs, hbl, hcell⟩ := hrow.open (by intro f; have := congrArg List.length f; simp at this; subst this; simp at hz)
        have ce := hcell m (.int .u8 (a : Int)) (by simp [hz])
        have hc := countW hT.ww
        have e1 : (mvT id a 9).length = 1 := by unfold mvT; rw [if_pos (by omega)]; rfl
        rw [e1] at hc
        simp only [Int.natCast_one] at hc
        have HT := Lib.hid hT
        have hab : (a : Int) ≤ 255 := by omega
        have CE := Lib.hid ce
        clear hn hrow hok hz hcell hbs hT e1 hL0 ha ce hbl HL
        go_upto_region 12 with (go_at_call 18; refine hc.mono ?_; rintro e w5 ⟨rfl, hw5⟩; obtain rfl := hw5.symm)
        go_wp2
        go_loopw [7] (fun i wr => ∃ now' : Nat, i = .int .u32 ((now' : Int) + 1) ∧ 9 ≤ now' ∧ now' ≤ 270 ∧ One F w g now' (mvT id a now') wr) (fun i _ => 271 - (intOf i).toNat)
        case atStart => exact ⟨9, by rfl, by omega, by omega, HT.out⟩
        case round =>
          obtain ⟨now', rfl, h9, h270, hT'⟩ := hrel
          by_cases hlt : now' < 270
          · as_aux_lemma =>
            have ht0 : decide ((now' : Int) + 1 ≤ 270) = true := by simp; omega
            have hs := tickW hT'.ww (by unfold mvT; split <;> simp)
            obtain ⟨e1, e2, e3⟩ := mv_tick id a now' h9 (by omega)
            unfold TickW at hs
            rw [e1, e2, e3] at hs
            have ce' := hT'.mod.cell CE.out (fun f => f)
            have hce5 : ∀ w5, Mod F wr w5 → w5.cell? ⟨b, o + m, none⟩ = some (.int .u8 (a : Int)) := fun w5 h5 => by
              have hbw : b < w.heap.size := World.block_lt_of_cell? _ _ CE.out
              exact h5.cell ce' (fun f => by have := hT'.own _ f; simp only at this; omega)
            have HCE := Lib.hid hce5
            have HTT := Lib.hid hT'
            clear e1 e2 e3 hT' ce' hce5
            by_cases heq : now' + 1 = 10 + a
            · rw [if_pos heq] at hs
              have ht1 : ((now' : Int) + 1 == 10 + (a : Int)) = true := by simp; omega
              simp only [List.length_singleton, List.map_cons, List.map_nil] at hs
              have HS := Lib.hid hs
              clear heq hs
              go_wp2_with (go_at_call 14; refine HS.out.mono ?_; rintro e w5 ⟨A5, c5, rfl, r5, hW5, hM5⟩; have HT6 := Lib.hid (HTT.out.stepW hW5 hM5); have ce5 := HCE.out w5 hM5; obtain ⟨b5, o5, rfl, _, _, hc5⟩ := r5.open (by simp); have ci5 := hc5 0 _ rfl; rw [Nat.add_zero] at ci5; clear hW5 hM5 r5 hc5)
              go_quiet (fail)
              go_wp2
              exact ⟨⟨now' + 1, by go_num, by omega, by omega, HT6.out.step ((Mod.refl No _).drewN _)⟩, by simp [intOf]; omega⟩
            · rw [if_neg heq] at hs
              have ht1 : ((now' : Int) + 1 == 10 + (a : Int)) = false := by simp; omega
              simp only [List.length_nil, List.map_nil] at hs
              have HS := Lib.hid hs
              clear heq hs
              go_wp2_with (go_at_call 14; refine HS.out.mono ?_; rintro e w5 ⟨A5, c5, rfl, r5, hW5, hM5⟩; have HT6 := Lib.hid (HTT.out.stepW hW5 hM5); have ce5 := HCE.out w5 hM5; clear hW5 hM5 r5)
              go_quiet (fail)
              go_wp2
              exact ⟨⟨now' + 1, by go_num, by omega, by omega, HT6.out.step ((Mod.refl No _).drewN _)⟩, by simp [intOf]; omega⟩
          · as_aux_lemma =>
            have hn' : now' = 270 := by omega
            subst hn'
            have hc := countW hT'.ww
            have e1 : mvT id a 270 = [] := by unfold mvT; rw [if_neg (by omega)]
            rw [e1] at hc
            simp only [List.length_nil, Int.natCast_zero] at hc
            have HTT := Lib.hid hT'
            clear hT' e1
            go_wp2_with (go_at_call 18; refine hc.mono ?_; rintro e w5 ⟨rfl, hw5⟩; obtain rfl := hw5.symm)
            go_ret
            exact ⟨rfl, HTT.out.mod⟩

end Go.Proofs.Ytlbdpofgcipjjaa
