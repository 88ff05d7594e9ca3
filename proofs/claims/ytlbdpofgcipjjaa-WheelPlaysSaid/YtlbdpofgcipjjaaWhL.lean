/-
  The law WheelPlays, walked.
-/
import Derived.Test.YtlbdpofgcipjjaaWhK
import Derived.Deep.CutBlock
import Derived.Deep.DeepCutAuto
import Derived.Deep.CutRange
namespace Go.Proofs.Ytlbdpofgcipjjaa
open Go.RowKit Go.MapKept Go.ChangeMaps
set_option linter.unusedVariables false
attribute [local go_sem ↓] Go.wp_at_zero Go.wp_at_succ

/-- A step of a script. -/
structure WAct where
  what : Int
  id : Int
  ahead : Nat
  raw : Bool
deriving Inhabited
def WAct.cells (x : WAct) : List Value := [.int .i64 x.what, .int .i64 x.id, .int .u32 (x.ahead : Int), .bool x.raw]
theorem WAct.len (x : WAct) : x.cells.length = 4 := rfl
structure WAct.Ok (x : WAct) : Prop where
  id : In64 x.id
  ahead : x.ahead < 4294967296
/-- The two wheels of a law: each its clock and what is due; all their blocks are new. -/
structure Two (F : Nat → Prop) (w0 : World) (g gr : Nat) (now : Nat) (L : List Due) (now2 : Nat) (L2 : List Due) (w : World) : Prop where
  ww : WW F w g now L
  rw : RefW (fun b => ¬ F b ∧ b ≠ gr) w gr now2 L2
  mod : Mod No w0 w
  own : ∀ j, F j → w0.heap.size ≤ j
  gr0 : w0.heap.size ≤ gr
  ng : ¬ F gr
theorem Two.start {F : Nat → Prop} {w0 w1 w2 : World} {g now : Nat} (hm : Mod No w0 w1) (hW : WW F w2 g now []) (hF : ∀ j, F j → w1.heap.size ≤ j) (hm2 : Mod No w1 w2) : Two F w0 g w2.heap.size now [] now [] (w2.alloc (.cells #[.slice none 0 0, .int .u32 now] 30)) := by
  have m3 : Mod No w2 (w2.alloc (.cells #[.slice none 0 0, .int .u32 now] 30)) := (Mod.refl _ _).alloc _
  have z0 := hm.size
  have z1 := hm2.size
  have z3 := m3.size
  refine ⟨hW.mod m3 (fun _ _ f => f), refW_new (at10 w2 _) (fun f => f.2 rfl) (fun b hb => ⟨fun f => by have := hW.lt f; omega, fun f => ?_⟩), (hm.trans hm2).trans m3, fun j hj => by have := hF j hj; omega, by omega, fun f => by have := hW.lt f; omega⟩
  have : (w2.alloc (.cells #[.slice none 0 0, .int .u32 now] 30)).heap.size = w2.heap.size + 1 := by simp
  omega
section
variable {F : Nat → Prop} {w0 w w' : World} {g gr now now2 now' : Nat} {L L2 L' : List Due}
theorem Two.stepW (h : Two F w0 g gr now L now2 L2 w) (hW : WW F w' g now' L') (hm : Mod F w w') : Two F w0 g gr now' L' now2 L2 w' :=
  ⟨hW, h.rw.mod hm h.ng (fun b hb f => hb.1 f), h.mod.own hm h.own, h.own, h.gr0, h.ng⟩
theorem Two.stepR (h : Two F w0 g gr now L now2 L2 w) (hR : RefW (fun b => ¬ F b ∧ b ≠ gr) w' gr now' L') (hm : Mod (fun j => j = gr) w w') : Two F w0 g gr now L now' L' w' :=
  ⟨h.ww.mod hm (fun j hj f => h.ng (by subst f; exact hj)), hR, h.mod.own hm (fun j hj => by subst hj; exact h.gr0), h.own, h.gr0, h.ng⟩
theorem Two.step (h : Two F w0 g gr now L now2 L2 w) (hm : Mod No w w') : Two F w0 g gr now L now2 L2 w' :=
  ⟨h.ww.mod hm (fun _ _ f => f), h.rw.mod hm (fun f => f) (fun _ _ f => f), h.mod.trans hm, h.own, h.gr0, h.ng⟩
end
theorem rset_len (L : List Due) (id : Int) (a : Nat) : (rset L id a).length ≤ L.length + 1 := by
  rw [rset, rins_length]
  have : (rdrop L id).length ≤ L.length := List.length_filter_le _ _
  omega
theorem rdrop_len (L : List Due) (id : Int) : (rdrop L id).length ≤ L.length := List.length_filter_le _ _
theorem trest_len (L : List Due) (now : Nat) : (trest L now).length ≤ L.length := by
  unfold trest
  split
  · exact (List.dropWhile_sublist _).length_le
  · exact Nat.le_refl _
theorem tdue_len (L : List Due) (now : Nat) : (tdue L now).length ≤ L.length := by
  unfold tdue
  split
  · exact (List.takeWhile_sublist _).length_le
  · exact Nat.zero_le _
set_option maxRecDepth 100000 in
set_option maxHeartbeats 4000000 in
theorem plays_walk (w : World) (now : Nat) (hnow : now < 4294967296) (A : Option Addr) (c n : Nat) (l : List WAct) (hn : l.length = n) (hn63 : n ≤ 9223372036854775807) (hrow : RowAt (fun _ => True) w A (l.flatMap WAct.cells)) (hok : ∀ x ∈ l, x.Ok) :
    Calls Try.prog 3 #[.int .u32 (now : Int), .slice A n c] w fun e w' => e = .returned (.bool true) ∧ Mod No w w' := by
  have hkn := known_ok w
  have HL := Lib.hid (And.intro hn (And.intro hrow hok))
  clear hn hrow hok
  by_cases h100 : 100 < n
  · have t1 : decide ((100 : Int) < (n : Int)) = true := by simp; omega
    go_enter Try.func3, Try.ntmps3
    go_wp2_with (go_at_call 7; refine hkn.mono ?_; rintro e w1 ⟨rfl, hm⟩)
    go_ret
    exact ⟨rfl, hm⟩
  · have t1 : decide ((100 : Int) < (n : Int)) = false := by simp; omega
    go_enter Try.func3, Try.ntmps3
    go_upto_region 5 with (go_at_call 7; refine hkn.mono ?_; rintro e w1 ⟨rfl, hm⟩)
    have hnw := newW w1 hnow
    go_upto_region 6 with (go_at_call 8; refine hnw.mono ?_; rintro e w2 ⟨rfl, ⟨F, hW, hF⟩, hm2⟩)
    have hn100 : n ≤ 100 := by omega
    clear hn63 h100 t1
    have h2 := Two.start hm hW hF hm2
    generalize w2.alloc (.cells #[.slice none 0 0, .int .u32 (now : Int)] 30) = w3 at *
    generalize w1.heap.size + 1 = g at *
    generalize w2.heap.size = gr at *
    clear hW hF hm2 hm hnw hkn
    go_wp2
    go_loopw [7] (fun i wr => ∃ k : Nat, i = .int .i64 k ∧ k ≤ n ∧ ∃ now L, L.length ≤ k ∧ Two F w g gr now L now L wr) (fun i _ => n - (intOf i).toNat)
    case atStart => exact ⟨0, rfl, by omega, now, [], by simp, h2⟩
    case round =>
      obtain ⟨k, rfl, hk, now', L, hL, hT⟩ := hrel
      clear h2
      by_cases hlt : k < n
      · obtain ⟨hn, hrow, hok⟩ := HL.out
        obtain ⟨x, hx⟩ : ∃ x, l[k]? = some x := ⟨_, List.getElem?_eq_getElem (by omega)⟩
        obtain ⟨b, o, rfl, hbs, hbl, hcell⟩ := RowAt.elem WAct.cells 4 WAct.len (by decide) (hrow.keeps (hT.mod.keeps (fun _ _ _ f => f))) hx
        have ce0 := hcell 0 _ rfl
        have ce1 := hcell 1 _ rfl
        have ce2 := hcell 2 _ rfl
        have ce3 := hcell 3 _ rfl
        rw [Nat.add_zero] at ce0
        have hxo := hok x (List.mem_of_getElem? hx)
        obtain ⟨hid, hah⟩ := hxo
        clear hn hrow hok hx hcell hbs
        obtain ⟨x0, x1, x2, x3⟩ := x
        have HT := Lib.hid hT
        have HX := Lib.hid (And.intro hid hah)
        clear hT hid hah
        simp only at ce0 ce1 ce2 ce3 HX
        go_upto_region 10 with fail
        obtain ⟨W4, hW4⟩ : ∃ W4, W4 = wr.alloc (.cells #[.int .i64 x0, .int .i64 x1, .int .u32 (x2 : Int), .bool x3] 32) := ⟨_, rfl⟩
        have hbx : W4.heap[wr.heap.size]? = some (.cells #[.int .i64 x0, .int .i64 x1, .int .u32 (x2 : Int), .bool x3] 32 (0, 0)) := by rw [hW4]; exact at10 wr _
        rw [← hW4]
        have hT4 : Two F w g gr now' L now' L W4 := HT.out.step (by rw [hW4]; exact (Mod.refl _ _).alloc _)
        have hxw : w.heap.size ≤ wr.heap.size := HT.out.mod.size
        have hxF : ¬ F wr.heap.size := fun f => by have := HT.out.ww.lt f; omega
        have hxg : wr.heap.size ≠ gr := fun f => by have := HT.out.rw.lt; omega
        generalize wr.heap.size = xb at *
        have dx2 : W4.cell? ⟨xb, 2, none⟩ = some (.int .u32 (x2 : Int)) := (blk_cell hbx 2).trans rfl
        have dx3 : W4.cell? ⟨xb, 3, none⟩ = some (.bool x3) := (blk_cell hbx 3).trans rfl
        have dg : W4.cell? ⟨gr, 1, none⟩ = some (.int .u32 (now' : Int)) := by
          obtain ⟨A', c', hb', _⟩ := hT4.rw.blk
          exact (blk_cell hb' 1).trans rfl
        have HT4 := Lib.hid hT4
        have HBX := Lib.hid hbx
        have HXX := Lib.hid (And.intro hxw (And.intro hxF hxg))
        clear hW4 hbx hT4 HT ce0 ce1 ce2 ce3 hxw hxF hxg
        go_upto_if 38 with fail
        go_cut [9] (fun s9 wx => (∃ a : Nat, a < 4294967296 ∧ s9 = .int .u32 (a : Int)) ∧ Mod No W4 wx)
        case first =>
          cases x3
          · obtain ⟨y, hy⟩ : ∃ y : Int, y = (x2 : Int) % 300 := ⟨_, rfl⟩
            go_wp2_with fail
            go_quiet (fail)
            go_wp2_with fail
            go_meet
            refine ⟨⟨(now' + x2 % 300) % 4294967296, Nat.mod_lt _ (by omega), ?_⟩, (Mod.refl No _).drewN _⟩
            simp
          · go_wp2_with fail
            go_meet
            exact ⟨⟨x2, HX.out.2, rfl⟩, Mod.refl _ _⟩
        case rest =>
          obtain ⟨⟨a, ha, rfl⟩, hmc⟩ := hcut
          have hb5 := hmc.obj HBX.out (fun f => f)
          have HT5 := Lib.hid (HT4.out.step hmc)
          have HB5 := Lib.hid hb5
          have dx0 : wc.cell? ⟨xb, 0, none⟩ = some (.int .i64 x0) := (blk_cell hb5 0).trans rfl
          have dx1 : wc.cell? ⟨xb, 1, none⟩ = some (.int .i64 x1) := (blk_cell hb5 1).trans rfl
          clear hb5 hmc HT4 HBX dx2 dx3 dg
          go_upto_block 2 with fail
          go_cut [55] (fun s55 wx => (∃ now1 L1, L1.length ≤ k + 1 ∧ Two F w g gr now1 L1 now1 L1 wx) ∧ wx.cell? ⟨xb, 1, none⟩ = some (.int .i64 x1))
          case first =>
            obtain ⟨hxw, hxF, hxg⟩ := HXX.out
            have hok := HT5.out.ww.ok
            have hl1 : L.length ≤ 1000000 := by omega
            by_cases hA : x0 = 0 ∨ x0 = 1 ∨ x0 = 2
            · as_aux_lemma =>
              have hs := setW HT5.out.ww HX.out.1 ha
              have hr := fun w5 (h5 : RefW (fun b => ¬ F b ∧ b ≠ gr) w5 gr now' L) => ref_set_ok h5 hok hl1 x1 a
              have HR := Lib.hid hr
              have HOK := Lib.hid (And.intro hok hl1)
              have HF := Lib.hid (And.intro hxw (And.intro hxF hxg))
              clear hr hok hl1 hxw hxF hxg
              rcases hA with rfl | rfl | rfl
              all_goals
                go_wp2_with (first
                  | (go_at_call 9; refine hs.mono ?_; rintro e w5 ⟨rfl, hW5, hM5⟩; have HT6 := Lib.hid (HT5.out.stepW hW5 hM5); have dx5 := hM5.cell dx1 HF.out.2.1; clear hW5 hM5)
                  | (go_at_call 10; refine (HR.out _ HT6.out.rw).mono ?_; rintro e w6 ⟨rfl, hR6, hM6⟩; have HT7 := Lib.hid (HT6.out.stepR hR6 hM6); have dx6 := hM6.cell dx5 HF.out.2.2; clear hR6 hM6))
                go_meet
                exact ⟨⟨now', rset L x1 a, by have := rset_len L x1 a; omega, HT7.out⟩, dx6⟩
            · by_cases hB : x0 = 3
              · as_aux_lemma =>
                subst hB
                have HTd := Lib.hid (HT5.out.step ((Mod.refl No wc).drew))
                have dxd : wc.drew.cell? ⟨xb, 1, none⟩ = some (.int .i64 x1) := dx1
                have hs := dropW HTd.out.ww HX.out.1
                have hr := fun w5 (h5 : RefW (fun b => ¬ F b ∧ b ≠ gr) w5 gr now' L) => ref_drop_ok h5 hok hl1 x1
                have HR := Lib.hid hr
                have HF := Lib.hid (And.intro hxw (And.intro hxF hxg))
                clear hr hok hl1 hxw hxF hxg hA
                generalize hrh : rhas L x1 = r at hs HR
                clear hrh
                go_wp2_with fail
                go_region_held3 (fun w' => w'.cell? ⟨xb, 1, none⟩ = some (.int .i64 x1)) (first | assumption | go_keep)
                  (first
                  | (go_at_call 11; refine hs.mono ?_; rintro e w5 ⟨rfl, hW5, hM5⟩; have HT6 := Lib.hid (HTd.out.stepW hW5 hM5); have dx5 := hM5.cell dxd HF.out.2.1; clear hW5 hM5)
                  | (go_at_call 12; refine (HR.out _ HT6.out.rw).mono ?_; rintro e w6 ⟨rfl, hR6, hM6⟩; have HT7 := Lib.hid (HT6.out.stepR hR6 hM6); have dx6 := hM6.cell dx5 HF.out.2.2; clear hR6 hM6))
                go_wp2_with fail
                go_meet
                exact ⟨⟨now', rdrop L x1, by have := rdrop_len L x1; omega, HT7.out⟩, dx6⟩
              · as_aux_lemma =>
                have b0 : (x0 == 0) = false := by simp; omega
                have b1 : (x0 == 1) = false := by simp; omega
                have b2 : (x0 == 2) = false := by simp; omega
                have b3 : (x0 == 3) = false := by simpa using hB
                have hs := tickW HT5.out.ww hl1
                have hr := fun w5 (h5 : RefW (fun b => ¬ F b ∧ b ≠ gr) w5 gr now' L) => tickR h5 hl1
                have hgl := HT5.out.rw.lt
                have HR := Lib.hid hr
                have HF := Lib.hid (And.intro hxw (And.intro hxF (And.intro hxg hgl)))
                have hdl := tdue_len L now'
                have hi := fun (w6 : World) (A1 A2 : Option Addr) (c1 c2 : Nat) (S1 S2 : Nat → Prop) (r1 : RowAt S1 w6 A1 ((tdue L now').map fun p => Value.int .i64 p.1)) (r2 : RowAt S2 w6 A2 ((tdue L now').map fun p => Value.int .i64 p.1)) =>
                  ints_ok (w := w6) (A := A1) (B := A2) (c := c1) (d := c2) (S1 := S1) (S2 := S2) (xs := (tdue L now').map (·.1)) (ys := (tdue L now').map (·.1)) (by rw [List.map_map]; exact r1) (by rw [List.map_map]; exact r2) (by rw [List.length_map]; omega) (by rw [List.length_map]; omega)
                simp only [List.length_map, decide_true] at hi
                have HI := Lib.hid hi
                have HDL := Lib.hid (And.intro hdl (And.intro hok hl1))
                clear hr hok hl1 hxw hxF hxg hA hB hi hdl hgl
                go_wp2_with (first
                  | (go_at_call 14; refine hs.mono ?_; rintro e w5 ⟨A5, c5, rfl, r5, hW5, hM5⟩; have R5 := Lib.hid r5; have HT6 := Lib.hid (HT5.out.stepW hW5 hM5); have dx5 := hM5.cell dx1 HF.out.2.1; clear hW5 hM5 r5)
                  | (go_at_call 15; refine (HR.out _ HT6.out.rw).mono ?_; rintro e w6 ⟨A6, c6, rfl, r6, hR6, hM6⟩; have R6 := Lib.hid r6; have R56 := Lib.hid (R5.out.keeps (hM6.keeps (fun bb _ hb f => by have := HF.out.2.2.2; omega))); have HT7 := Lib.hid (HT6.out.stepR hR6 hM6); have dx6 := hM6.cell dx5 HF.out.2.2.1; clear hR6 hM6 r6)
                  | (go_at_call 13; refine (HI.out _ _ _ _ _ _ _ R56.out R6.out).mono ?_; rintro e w7 ⟨rfl, h7⟩; have HT8 := Lib.hid (HT7.out.step h7); have dx7 := h7.cell dx6 (fun f => f); clear h7))
                go_meet
                exact ⟨⟨tnow now', trest L now', by have := trest_len L now'; omega, HT8.out⟩, dx7⟩
          case rest =>
            obtain ⟨⟨now1, L1, hL1, hT1⟩, dx1'⟩ := hcut
            have dgr := hT1.rw.blk
            obtain ⟨A9, c9, hb9, _⟩ := dgr
            have dg0 := (blk_cell hb9 0).trans rfl
            have dg1 := (blk_cell hb9 1).trans rfl
            have HT1 := Lib.hid hT1
            have hc1 := fun q => countW (HT1.out.step ((Mod.refl No wc).drewN q)).ww
            have hc2 := fun q => nowW (HT1.out.step ((Mod.refl No wc).drewN q)).ww
            have ha1 := atW HT1.out.ww HX.out.1
            have ha2 := ref_at_ok HT1.out.rw (by omega) x1
            have dg0' : wc.cell? ⟨gr, 0, none⟩ = some (.slice A9 L1.length c9) := dg0
            have dg1' : wc.cell? ⟨gr, 1, none⟩ = some (.int .u32 (now1 : Int)) := dg1
            generalize rat L1 x1 = r1 at ha1 ha2
            generalize rhas L1 x1 = r2 at ha1 ha2
            obtain ⟨m1, hm1⟩ : ∃ m1, m1 = L1.length := ⟨_, rfl⟩
            rw [← hm1] at hc1 dg0' hL1
            have HC1 := Lib.hid hc1
            have HC2 := Lib.hid hc2
            have HA1 := Lib.hid ha1
            have HA2 := Lib.hid ha2
            have HM1 := Lib.hid hm1
            clear hT1 hb9 dg0 dg1 hc1 hc2 ha1 ha2 dx0 dx1 HT5 HB5 hm1
            go_upto_region 26 with (first
              | (go_at_call 16; refine HA1.out.mono ?_; rintro e w5 ⟨rfl, hw5⟩; obtain rfl := hw5.symm)
              | (go_at_call 17; refine HA2.out.mono ?_; rintro e w5 ⟨rfl, hw5⟩; obtain rfl := hw5.symm))
            go_quiet ((first | (go_at_call 18; exact Calls.quiet_of_same (HC1.out _)) | (go_at_call 19; exact Calls.quiet_of_same (HC2.out _))))
            go_wp2
            exact ⟨⟨k + 1, by go_num, by omega, now1, L1, by have := HM1.out; omega, HT1.out.step ((Mod.refl No _).drewN _)⟩, by simp [intOf]; omega⟩
      · have hkn : k = n := by omega
        subst hkn
        have HT := Lib.hid hT
        clear hT
        go_wp2
        go_ret
        exact ⟨rfl, HT.out.mod⟩

end Go.Proofs.Ytlbdpofgcipjjaa
