/-
  DfT, DfU, DfV in one text (pack.py).
-/
import Derived.Test.YtkiikbajbikdeaaQ4
namespace Go.Proofs.Ytkiikbajbikdeaa

section
open Go.RowKit
set_option linter.unusedVariables false
attribute [local go_sem ↓] Go.wp_at_zero Go.wp_at_succ
attribute [local go_sem ↓] store_fold alloc_fold load_fold
/-! ### plain -/
theorem names_of (a b : List Ten) : ∃ ns : List Nm, ns.Nodup ∧ ∀ n, n ∈ ns ↔ look Ten.name a n ≠ none ∨ look Ten.name b n ≠ none := by
  refine ⟨(firsts Ten.name (a ++ b)).map Ten.name, firsts_nodup _, fun n => ?_⟩
  have h1 : n ∈ (firsts Ten.name (a ++ b)).map Ten.name ↔ look Ten.name (firsts Ten.name (a ++ b)) n ≠ none := by
    constructor
    · intro h f
      obtain ⟨x, hx, e⟩ := List.mem_map.1 h
      exact look_none.1 f x hx e
    · intro h
      cases hl : look Ten.name (firsts Ten.name (a ++ b)) n with
      | none => exact absurd hl h
      | some x => exact List.mem_map.2 ⟨x, (look_name hl).2, (look_name hl).1⟩
  rw [h1, firsts_look, look_append]
  cases look Ten.name a n <;> simp
theorem dff_back (a b : List Ten) : applied Ten.name a (dff a b) = applied Ten.name b [] := by
  obtain ⟨ns, hn, hns⟩ := names_of a b
  rw [dff_eq hn hns]
  exact applied_diffd hn a b hns
theorem dff_nil {a b : List Ten} (h : ∀ n, look Ten.name a n = look Ten.name b n) : dff a b = [] := by
  obtain ⟨ns, hn, hns⟩ := names_of a b
  rw [dff_eq hn hns]
  exact diffd_nil h
theorem applied_nil_look (l : List Ten) (n : Nm) : look Ten.name (applied Ten.name l []) n = look Ten.name l n := by
  rw [applied_look]; rfl
set_option maxRecDepth 100000 in
set_option maxHeartbeats 2000000 in
theorem diffBack_walk {w : World} {A A2 : Option Addr} {n c n2 c2 : Nat} {a b : List TV} (hA : ArgT w A n c a) (hB : ArgT w A2 n2 c2 b) :
    Calls Try.prog 5 #[.slice A n c, .slice A2 n2 c2] w fun e w' => e = .returned (.bool true) ∧ Mod No w w' := by
  have hk := known15 w
  have H0 := Lib.hid (And.intro hA hB)
  have hl := fun (W : World) (hm : Mod No w W) => light_call (hA.mod hm) (hB.mod hm) (ArgC.nil W)
  obtain ⟨r, hr⟩ : ∃ r, r = light15 a b [] := ⟨_, rfl⟩
  rw [← hr] at hl
  have HR := Lib.hid hr
  have HK := Lib.hid hk
  have HL := Lib.hid hl
  clear hA hB hk hl hr
  go_enter Try.func5, Try.ntmps5
  go_upto_region 3 with (go_at_call 8; refine HK.out.mono ?_; rintro e w1 ⟨rfl, m1⟩; have M1 := Lib.hid m1; clear m1)
  cases r with
  | false =>
    go_wp2_with (go_at_call 9; refine (HL.out _ M1.out).mono ?_; rintro e w2 ⟨rfl, m2⟩; have M2 := Lib.hid (M1.out.trans m2); clear m2)
    go_ret
    exact ⟨rfl, M2.out⟩
  | true =>
    obtain ⟨h1, h2, _⟩ := light15_of HR.out.symm
    have hta := tvo_of H0.out.1.row H0.out.1.op h1.2
    have htb := tvo_of H0.out.2.row H0.out.2.op h2.2
    have hd := fun (U : World) (hm : Mod No w U) => diff_o (c := c) (d := c2) (hta.mod hm) H0.out.1.len (by omega) (htb.mod hm) H0.out.2.len (by omega)
    have hd2 := fun (U : World) (hm : Mod No w U) => diff_o (c := c) (d := c) (hta.mod hm) H0.out.1.len (by omega) (hta.mod hm) H0.out.1.len (by omega)
    have hb2 := fun (U : World) (hm : Mod No w U) => apply_o (c := c2) (C := none) (m := 0) (d := 0) (htb.mod hm) H0.out.2.len (by omega) (CVo.nil U none) rfl (by simp)
    have HT := Lib.hid (And.intro hta (And.intro htb (And.intro h1.1 h2.1)))
    have HD := Lib.hid hd
    have HD2 := Lib.hid hd2
    have HB2 := Lib.hid hb2
    clear hta htb hd hd2 hb2 h1 h2
    go_upto_region 6 with (first
      | (go_at_call 9; refine (HL.out _ M1.out).mono ?_; rintro e w2 ⟨rfl, m2⟩; have M2 := Lib.hid (M1.out.trans m2); clear m2)
      | (go_at_call 17; refine (HD.out _ M2.out).mono ?_; rintro e w3 ⟨A3, c3, L3, rfl, hc3, ht3, hl3, m3⟩; have H3 := Lib.hid (And.intro hc3 (And.intro ht3 (And.intro hl3 (M2.out.trans m3)))); clear hc3 ht3 hl3 m3)
      | (go_at_call 13; refine (apply_o (HT.out.1.mod H3.out.2.2.2) H0.out.1.len (by have := HT.out.2.2.1; omega) H3.out.1 rfl (by have := H3.out.2.2.1; have := HT.out.2.2.1; have := HT.out.2.2.2; omega)).mono ?_; rintro e w4 ⟨A4, c4, X, rfl, hx, hxt, hxl, m4⟩; have H4 := Lib.hid (And.intro hx (And.intro hxt (And.intro hxl (H3.out.2.2.2.trans m4)))); clear hx hxt hxl m4))
    have hX : X.map (·.t) = applied Ten.name (b.map (·.t)) [] := by rw [H4.out.2.1, H3.out.2.1, dff_back]
    have hXl : X.length ≤ 1000 := by have h1 := H4.out.2.2.1; have h2 := H3.out.2.2.1; have h3 := HT.out.2.2.1; have h4 := HT.out.2.2.2; omega
    have hn1 : dff (X.map (·.t)) (b.map (·.t)) = [] := dff_nil (fun n => by rw [hX]; exact applied_nil_look _ n)
    have hn2 : dff (a.map (·.t)) (a.map (·.t)) = [] := dff_nil (fun n => rfl)
    have hxd := fun (U : World) (hm : Mod No w4 U) => diff_o (c := c4) (d := c2) (H4.out.1.mod hm) rfl (by omega) (HT.out.2.1.mod (H4.out.2.2.2.trans hm)) H0.out.2.len (by have := HT.out.2.2.2; omega)
    have HXD := Lib.hid hxd
    have HX := Lib.hid (And.intro hX (And.intro hXl (And.intro hn1 hn2)))
    clear hX hXl hn1 hn2 hxd
    obtain ⟨lx, hlx⟩ : ∃ lx, lx = X.length := ⟨_, rfl⟩
    rw [← hlx] at HXD ⊢
    have HLX := Lib.hid hlx
    clear hlx
    go_wp2_with (first
      | (go_at_call 13; refine (HB2.out _ H4.out.2.2.2).mono ?_; rintro e w5 ⟨A5, c5, Y, rfl, hy, hyt, hyl, m5⟩; have H5 := Lib.hid (And.intro hy (And.intro hyt (And.intro m5 (H4.out.2.2.2.trans m5)))); clear hy hyt hyl m5)
      | (go_at_call 12; refine (tens_o (H4.out.1.mod H5.out.2.2.1) H5.out.1 (HX.out.1.trans H5.out.2.1.symm) HLX.out rfl (by have := HX.out.2.1; omega)).mono ?_; rintro e w6 ⟨rfl, m6⟩; have M6 := Lib.hid (And.intro (H5.out.2.2.1.trans m6) (H5.out.2.2.2.trans m6)); clear m6)
      | (go_at_call_of 17 (Value.slice A4 lx c4); refine (HXD.out _ M6.out.1).mono ?_; rintro e w7 ⟨A7, c7, L7, rfl, hc7, ht7, hl7, m7⟩; rw [HX.out.2.2.1] at ht7; obtain rfl := List.map_eq_nil_iff.1 ht7; have M7 := Lib.hid (M6.out.2.trans m7); clear hc7 ht7 hl7 m7)
      | (go_at_call_of 17 (Value.slice A n c); refine (HD2.out _ M7.out).mono ?_; rintro e w8 ⟨A8, c8, L8, rfl, hc8, ht8, hl8, m8⟩; rw [HX.out.2.2.2] at ht8; obtain rfl := List.map_eq_nil_iff.1 ht8; have M8 := Lib.hid (M7.out.trans m8); clear hc8 ht8 hl8 m8))
    go_ret
    exact ⟨rfl, M8.out⟩
set_option maxRecDepth 100000 in
set_option maxHeartbeats 2000000 in
theorem diffApplies_walk {w : World} {A C : Option Addr} {n c m d : Nat} {a : List TV} {cs : List Cg} (hA : ArgT w A n c a) (hC : ArgC w C m d cs) (s : ByteArray) :
    Calls Try.prog 3 #[.slice A n c, .slice C m d, .string s] w fun e w' => e = .returned (.bool true) ∧ Mod No w w' := by
  have hk := known15 w
  have H0 := Lib.hid (And.intro hA hC)
  have hl := fun (W : World) (hm : Mod No w W) => light_call (hA.mod hm) (ArgT.nil W) (hC.mod hm)
  obtain ⟨r, hr⟩ : ∃ r, r = light15 a [] cs := ⟨_, rfl⟩
  rw [← hr] at hl
  obtain ⟨sz, hsz⟩ : ∃ sz : Nat, sz = s.size := ⟨_, rfl⟩
  have hsz' := hsz.symm
  have HR := Lib.hid hr
  have HSZ := Lib.hid hsz
  have HK := Lib.hid hk
  have HL := Lib.hid hl
  clear hA hC hk hl hr hsz
  go_enter Try.func3, Try.ntmps3
  go_upto_region 3 with (go_at_call 8; refine HK.out.mono ?_; rintro e w1 ⟨rfl, m1⟩; have M1 := Lib.hid m1; clear m1)
  cases r with
  | false =>
    go_wp2_with (go_at_call 9; refine (HL.out _ M1.out).mono ?_; rintro e w2 ⟨rfl, m2⟩; have M2 := Lib.hid (M1.out.trans m2); clear m2)
    go_ret
    exact ⟨rfl, M2.out⟩
  | true =>
    by_cases h300 : 300 < sz
    · have t1 : decide ((300 : Int) < (sz : Int)) = true := decide_eq_true (by omega)
      go_wp2_with (go_at_call 9; refine (HL.out _ M1.out).mono ?_; rintro e w2 ⟨rfl, m2⟩; have M2 := Lib.hid (M1.out.trans m2); clear m2)
      go_ret
      exact ⟨rfl, M2.out⟩
    · have t1 : decide ((300 : Int) < (sz : Int)) = false := decide_eq_false (by omega)
      obtain ⟨h1, _, h2, h3⟩ := light15_of HR.out.symm
      have hta := tvo_of H0.out.1.row H0.out.1.op h1.2
      have htc := cvo_of H0.out.2.row H0.out.2.op h3
      obtain ⟨q, hq⟩ : ∃ q : Nm, q = s.data.toList := ⟨_, rfl⟩
      have hqs : str q = s := by rw [hq]; unfold str; simp
      have hql : q.length ≤ 1000000 := by have h9 := HSZ.out; rw [hq]; have : s.size = s.data.size := rfl; simp; omega
      have hf := fun (U : World) (hm : Mod No w U) => find_ok (c := c) a (hta.mod hm).tvl H0.out.1.len (by omega) (hta.mod hm).small (here_no U) q hql
      have hf2 := fun (U : World) (hm : Mod No w U) => rfind_ok (c := c) a (hta.mod hm).tvl H0.out.1.len (by omega) (here_no U) q
      rw [hqs] at hf hf2
      obtain ⟨B, hB⟩ : ∃ B, B = (look TV.nm a q).isSome := ⟨_, rfl⟩
      rw [← hB] at hf hf2
      have hbb : (B == B) = true := by simp
      have hp := fun (U : World) (hm : Mod No w U) => apply_o (c := c) (d := d) (hta.mod hm) H0.out.1.len (by omega) (htc.mod hm) H0.out.2.len (by omega)
      have hp2 := fun (U : World) (hm : Mod No w U) => rapply_o (c := c) (d := d) (hta.mod hm) H0.out.1.len (by omega) (htc.mod hm) H0.out.2.len (by omega)
      have hlx : Lt300 (tX a q).t := by
        unfold tX
        cases hl : look TV.nm a q with
        | none => exact lt300_zero
        | some x => exact lt300_of (h1.2 x (look_name hl).2)
      have HF := Lib.hid hf
      have HF2 := Lib.hid hf2
      have HP := Lib.hid hp
      have HP2 := Lib.hid hp2
      have HLX := Lib.hid (And.intro hlx (And.intro h1.1 h2))
      clear hta htc hf hf2 hp hp2 hq hqs hql hB hlx h1 h2 h3
      go_upto_region 6 with (first
        | (go_at_call 9; refine (HL.out _ M1.out).mono ?_; rintro e w2 ⟨rfl, m2⟩; have M2 := Lib.hid (M1.out.trans m2); clear m2)
        | (go_at_call 10; refine (HF.out _ M2.out).mono ?_; rintro e w3 ⟨x, rfl, hxt, hxr, m3⟩; have hal := tenAlloc_run w3; have hst := tenStore_new w3 x.cells.toArray rfl (TV.one hxr); obtain ⟨CX, hCX⟩ : ∃ CX, CX = x.cells.toArray := ⟨_, rfl⟩; rw [← hCX] at hst ⊢; have HX := Lib.hid (And.intro hxt (And.intro hxr (And.intro (M2.out.trans m3) hCX))); clear hxt hxr m3 hCX))
      generalize hV : w3.alloc (.cells CX 34) = V
      have mV : Mod No w3 V := by rw [← hV]; exact (Mod.refl _ _).alloc _
      have hbV : V.heap[w3.heap.size]? = some (.cells CX 34 (0, 0)) := by rw [← hV]; exact at10 _ _
      clear hV hal hst
      obtain ⟨g1, hg1⟩ : ∃ g, g = w3.heap.size := ⟨_, rfl⟩
      rw [← hg1] at hbV ⊢
      have HV := Lib.hid (And.intro mV (And.intro hbV (HX.out.2.2.1.trans mV)))
      clear mV hbV hg1
      go_upto_region 7 with (go_at_call 11; refine (HF2.out _ HV.out.2.2).mono ?_; rintro e w4 ⟨y, rfl, hyt, hyr, m4⟩; have hal := tenAlloc_run w4; have hst := tenStore_new w4 y.cells.toArray rfl (TV.one hyr); obtain ⟨CY, hCY⟩ : ∃ CY, CY = y.cells.toArray := ⟨_, rfl⟩; rw [← hCY] at hst ⊢; have HY := Lib.hid (And.intro hyt (And.intro hyr (And.intro m4 hCY))); clear hyt hyr m4 hCY)
      generalize hV : w4.alloc (.cells CY 34) = V2
      have mV2 : Mod No w4 V2 := by rw [← hV]; exact (Mod.refl _ _).alloc _
      have hbV2 : V2.heap[w4.heap.size]? = some (.cells CY 34 (0, 0)) := by rw [← hV]; exact at10 _ _
      clear hV hal hst
      obtain ⟨g2, hg2⟩ : ∃ g, g = w4.heap.size := ⟨_, rfl⟩
      rw [← hg2] at hbV2 ⊢
      have HV2 := Lib.hid (And.intro mV2 (And.intro hbV2 (And.intro ((HV.out.2.2.trans HY.out.2.2.1).trans mV2) (HY.out.2.2.1.trans mV2))))
      clear mV2 hbV2 hg2
      go_wp2_with (first
        | (go_at_call 13; refine (HP.out _ HV2.out.2.2.1).mono ?_; rintro e w5 ⟨A5, c5, X, rfl, hx, hxt, hxl, m5⟩; have H5 := Lib.hid (And.intro hx (And.intro hxt (And.intro hxl (And.intro m5 (HV2.out.2.2.1.trans m5))))); clear hx hxt hxl m5)
        | (go_at_call 14; refine (HP2.out _ H5.out.2.2.2.2).mono ?_; rintro e w6 ⟨A6, c6, Y, rfl, hy, hyt, hyl, m6⟩; have H6 := Lib.hid (And.intro hy (And.intro hyt (And.intro m6 (And.intro (H5.out.2.2.2.1.trans m6) (H5.out.2.2.2.2.trans m6))))); clear hy hyt hyl m6)
        | (go_at_call 12; refine (tens_o (H5.out.1.mod H6.out.2.2.1) H6.out.1 (H5.out.2.1.trans H6.out.2.1.symm) rfl rfl (by have h1 := H5.out.2.2.1; have h2 := HLX.out.2.1; have h3 := HLX.out.2.2; omega)).mono ?_; rintro e w7 ⟨rfl, m7⟩;
           have z1 : Mod No V2 w7 := H6.out.2.2.2.1.trans m7; have l1 := tenLoad_run ((HV2.out.2.2.2.trans z1).obj HV.out.2.1 (fun f => f)) (show CX.size = 33 by rw [HX.out.2.2.2]; rfl); have l2 := tenLoad_run (z1.obj HV2.out.2.1 (fun f => f)) (show CY.size = 33 by rw [HY.out.2.2.2]; rfl); have M7 := Lib.hid (And.intro z1 (H6.out.2.2.2.2.trans m7)); clear m7 z1)
        | (go_at_call 15; rw [HX.out.2.2.2, HY.out.2.2.2]; refine (tenant_same (w := w7) ((HX.out.2.1.keeps (HV.out.1.keeps (fun _ _ _ f => f))).keeps ((HV2.out.2.2.2.trans M7.out.1).keeps (fun _ _ _ f => f))) (HY.out.2.1.keeps ((HV2.out.1.trans M7.out.1).keeps (fun _ _ _ f => f))) (HX.out.1.trans HY.out.1.symm) (by rw [HY.out.1]; exact HLX.out.1.1) (by rw [HY.out.1]; exact HLX.out.1.2.1) (by rw [HY.out.1]; exact HLX.out.1.2.2)).mono ?_; rintro e w8 ⟨rfl, m8⟩; have M8 := Lib.hid (M7.out.2.trans m8); clear m8))
      go_ret
      exact ⟨by simp, M8.out⟩
end

section
open Go.RowKit
set_option linter.unusedVariables false
attribute [local go_sem ↓] Go.wp_at_zero Go.wp_at_succ
attribute [local go_sem ↓] store_fold alloc_fold load_fold
attribute [local go_sem ↓ high] app_chg_fold
theorem elemChg : Try.prog.elem 23 = 47 := by kernel_rfl
theorem sizeChg : ∀ W, (sizeOf 47).run Try.prog W = .ok 35 W := fun W => by kernel_rfl
/-- xs[i:i+1] -/
theorem slice_one {C : Option Addr} {m d k : Nat} (h1 : k < m) (h2 : m ≤ d) :
    ∃ C', (∀ W, (Instr.slice 23 (.slice C m d) (some (.int .i64 (k : Int))) (some (.int .i64 ((k : Int) + 1))) none).run Try.prog W = .ok (.slice C' 1 (d - k)) W) ∧
      ∀ (U : World) (cs : List Cg) (x : Cg), CVo U C cs → cs[k]? = some x → CVo U C' [x] := by
  refine ⟨C.map (·.add (k * 35)), fun W => ?_, fun U cs x h hx => ⟨⟨?_, ?_⟩, ?_⟩⟩
  · rw [run_slice_lh (P := Try.prog) W 23 C m d (by rw [elemChg]; exact Try.underlying23) .i64 .i64 (k : Int) ((k : Int) + 1) (by omega) (by omega) (by omega), elemChg, sizeChg]
    have e : ((k : Int) + 1).toNat = k + 1 := by omega
    simp only [Result.andThen, sliced, Int.toNat_natCast, e]
    rw [if_neg (by omega)]
    congr 2
    omega
  · obtain ⟨g, o, e, hs, _, hc⟩ := RowAt.elem Cg.cells 35 cg_len (by decide) h.cvl.1 hx
    subst e
    refine .inr ⟨g, o + k * 35, by simp [Addr.add_lit], hs, fun j v hj => hc j v ?_⟩
    simpa using hj
  · intro y hy
    obtain rfl : y = x := by simpa using hy
    exact h.cvl.2 y (List.mem_of_getElem? hx)
  · intro y hy
    obtain rfl : y = x := by simpa using hy
    exact h.lt y (List.mem_of_getElem? hx)
set_option maxRecDepth 100000 in
set_option maxHeartbeats 2000000 in
theorem diffSteps_walk {w : World} {A C : Option Addr} {n c m d : Nat} {a : List TV} {cs : List Cg} (hA : ArgT w A n c a) (hC : ArgC w C m d cs) :
    Calls Try.prog 6 #[.slice A n c, .slice C m d] w fun e w' => e = .returned (.bool true) ∧ Mod No w w' := by
  have hk := known15 w
  have H0 := Lib.hid (And.intro hA hC)
  have hl := fun (W : World) (hm : Mod No w W) => light_call (hA.mod hm) (ArgT.nil W) (hC.mod hm)
  obtain ⟨r, hr⟩ : ∃ r, r = light15 a [] cs := ⟨_, rfl⟩
  rw [← hr] at hl
  have HR := Lib.hid hr
  have HK := Lib.hid hk
  have HL := Lib.hid hl
  clear hA hC hk hl hr
  go_enter Try.func6, Try.ntmps6
  go_upto_region 3 with (go_at_call 8; refine HK.out.mono ?_; rintro e w1 ⟨rfl, m1⟩; have M1 := Lib.hid m1; clear m1)
  cases r with
  | false =>
    go_wp2_with (go_at_call 9; refine (HL.out _ M1.out).mono ?_; rintro e w2 ⟨rfl, m2⟩; have M2 := Lib.hid (M1.out.trans m2); clear m2)
    go_ret
    exact ⟨rfl, M2.out⟩
  | true =>
    obtain ⟨h1, _, h2, h3⟩ := light15_of HR.out.symm
    have hta := tvo_of H0.out.1.row H0.out.1.op h1.2
    have htc := cvo_of H0.out.2.row H0.out.2.op h3
    have hp := fun (U : World) (hm : Mod No w U) => apply_o (c := c) (d := d) (hta.mod hm) H0.out.1.len (by omega) (htc.mod hm) H0.out.2.len (by omega)
    have hp0 := fun (U : World) (hm : Mod No w U) => apply_o (c := c) (C := none) (m := 0) (d := 0) (hta.mod hm) H0.out.1.len (by omega) (CVo.nil U none) rfl (by simp)
    have hm20 : m ≤ 20 := by have := H0.out.2.len; omega
    have HP := Lib.hid hp
    have HP0 := Lib.hid hp0
    have HT := Lib.hid (And.intro htc (And.intro h1.1 h2))
    clear hta htc hp hp0 h1 h2 h3
    go_upto_region 6 with (first
      | (go_at_call 9; refine (HL.out _ M1.out).mono ?_; rintro e w2 ⟨rfl, m2⟩; have M2 := Lib.hid (M1.out.trans m2); clear m2)
      | (go_at_call 13; refine (HP0.out _ M2.out).mono ?_; rintro e w3 ⟨A3, c3, X, rfl, hx, hxt, hxl, m3⟩; have H3 := Lib.hid (And.intro hx (And.intro hxt (And.intro hxl (M2.out.trans m3)))); clear hx hxt hxl m3))
    go_wp2_with fail
    go_loopw [5, 6] (fun v i wr => ∃ (k : Nat) (A' : Option Addr) (c' : Nat) (X : List TV), i = .int .i64 k ∧ k ≤ m ∧ v = .slice A' (List.length X) c' ∧ TVo wr A' X ∧ X.map (·.t) = applied Ten.name (a.map (·.t)) ((cs.take k).map Cg.chg) ∧ X.length ≤ a.length + k ∧ Mod No w wr) (fun _ i _ => m - (intOf i).toNat)
    case atStart => exact ⟨0, A3, c3, X, rfl, by omega, rfl, H3.out.1, by rw [H3.out.2.1]; rfl, by have := H3.out.2.2.1; simpa using this, H3.out.2.2.2⟩
    case round =>
      obtain ⟨k, A', c', Y, rfl, hk, rfl, hY, hYt, hYl, hM⟩ := hrel
      have HY := Lib.hid (And.intro hY (And.intro hYt (And.intro hYl hM)))
      obtain ⟨ly, hly⟩ : ∃ ly, ly = Y.length := ⟨_, rfl⟩
      rw [← hly]
      have HLY := Lib.hid hly
      clear hY hYt hYl hM hly
      by_cases hlt : k < m
      · obtain ⟨x, hx⟩ : ∃ x : Cg, cs[k]? = some x := ⟨_, List.getElem?_eq_getElem (by have := H0.out.2.len; omega)⟩
        obtain ⟨C', hsl, hone⟩ := slice_one (C := C) hlt H0.out.2.cap
        have hcall := apply_o (U := wr) (c := c') (d := d - k) HY.out.1 HLY.out (by have := HY.out.2.2.1; have := HT.out.2.1; omega) (hone wr cs x (HT.out.1.mod HY.out.2.2.2) hx) (m := 1) rfl (by simp)
        have HC := Lib.hid hcall
        have HX := Lib.hid hx
        have p1 : (0:Int) ≤ k := by omega
        have p2 : (k:Int) < m := by omega
        have hk1 : IntKind.i64.wrap ((k : Int) + 1) = (k : Int) + 1 := IntWalk.i64_in _ (by omega)
        clear hcall hone hx
        go_wp2_with (go_at_call 13; refine HC.out.mono ?_; rintro e w4 ⟨A4, c4, Z, rfl, hz, hzt, hzl, m4⟩; have H4 := Lib.hid (And.intro hz (And.intro hzt (And.intro hzl m4))); clear hz hzt hzl m4)
        refine ⟨⟨k + 1, A4, c4, Z, by go_num, by omega, rfl, H4.out.1, ?_, by have h1 := H4.out.2.2.1; have h2 := HY.out.2.2.1; simp at h1; omega, HY.out.2.2.2.trans H4.out.2.2.2⟩, by simp [intOf]; omega⟩
        rw [H4.out.2.1, HY.out.2.1, applied_app, take_snoc3 HX.out, List.map_append]
      · obtain rfl : k = m := by omega
        have ht := HY.out.2.1
        rw [List.take_of_length_le (by have := H0.out.2.len; omega)] at ht
        have HYT := Lib.hid ht
        clear ht
        go_wp2_with (first
          | (go_at_call 13; refine (HP.out _ HY.out.2.2.2).mono ?_; rintro e w5 ⟨A5, c5, Z, rfl, hz, hzt, hzl, m5⟩; have H5 := Lib.hid (And.intro hz (And.intro hzt (And.intro m5 (HY.out.2.2.2.trans m5)))); clear hz hzt hzl m5)
          | (go_at_call 12; refine (tens_o (HY.out.1.mod H5.out.2.2.1) H5.out.1 (HYT.out.trans H5.out.2.1.symm) HLY.out rfl (by have := HY.out.2.2.1; have := HT.out.2.1; omega)).mono ?_; rintro e w6 ⟨rfl, m6⟩; have M6 := Lib.hid (H5.out.2.2.2.trans m6); clear m6))
        go_ret
        exact ⟨rfl, M6.out⟩
end

section
open Go.RowKit
set_option linter.unusedVariables false
attribute [local go_sem ↓] Go.wp_at_zero Go.wp_at_succ
attribute [local go_sem ↓] store_fold alloc_fold load_fold
attribute [local go_sem ↓ high] app_chg_fold
theorem geqStr (t : TypeId) (a b : ByteArray) : binOp .geq t (.string a) (.string b) = pure (.bool !(Op.bytesLess a.toList b.toList)) := by simp [binOp, Op.stringOp]
attribute [local go_sem] geqStr
/-- Changes behind changes, in a list of one's own. -/
theorem cgs_append {S : Nat → Prop} {base : Nat} {w : World} {v : Value} {L L2 : List Cg} (own : w.ownsRow base 47 35 v L.length (L.flatMap Cg.cells)) {A : Option Addr} {c : Nat} (hr : RowAt S w A (L2.flatMap Cg.cells)) (h1 : ∀ x ∈ L2, ∃ S' w', x.x.Rows S' w') (hl : L.length + L2.length ≤ 100000) (hb : base ≤ w.heap.size) :
    ∃ v' w', (chgAppend v (.slice A L2.length c)).run Try.prog w = .ok v' w' ∧ w'.ownsRow base 47 35 v' (L ++ L2).length ((L ++ L2).flatMap Cg.cells) ∧ Mod (fun b => v.ownBlock = some b) w w' := by
  obtain ⟨i0, hi, hz0, hz1, hz2⟩ := info_parts infoChgB
  obtain ⟨v', w', h1, h2, h3, h4⟩ := run_append_row (P := Try.prog) w base 23 23 47 i0 _ 35 184 Try.underlying23 hi hz0 hz1 hz2 (show zChg.size = 35 from rfl) (by decide) v L.length _ own A L2.length c _ hr (flat_length Cg.cells 35 cg_len L2) (fun u hu => by
    obtain ⟨x, hx, hux⟩ := List.mem_flatMap.1 hu
    obtain ⟨S', w', hxr⟩ := h1 x hx
    exact (Array.all_eq_true_iff_forall_mem.1 (cg_one hxr)) u (by simpa using hux)) (by unfold maxLen; omega) (by omega) hb
  exact ⟨v', w', h1, by rw [List.length_append, List.flatMap_append]; exact h2, (Mod.refl _ w).grown h3 (fun k hk => .inr hk)⟩
theorem own_block_lt {base : Nat} {w : World} {v : Value} {n : Nat} {xs : List Value} (own : w.ownsRow base 47 35 v n xs) {g : Nat} (hg : v.ownBlock = some g) : base ≤ g ∧ g < w.heap.size := by
  rcases own.2 with ⟨rfl, _⟩ | ⟨g', cap, cur, rfl, h1, h2, _⟩
  · simp [Value.ownBlock] at hg
  · obtain rfl : g' = g := by simpa [Value.ownBlock] using hg
    exact ⟨h1, lt_of_block h2⟩
theorem chain_eq (a b c : List Ten) : applied Ten.name a (dff a b ++ dff b c) = applied Ten.name c [] := by
  rw [← applied_app, dff_back]
  have e : applied Ten.name (applied Ten.name b []) (dff b c) = applied Ten.name b (dff b c) := by rw [applied_app]; rfl
  rw [e, dff_back]
set_option maxRecDepth 100000 in
set_option maxHeartbeats 2000000 in
theorem diffChain_walk {w : World} {A A2 A3 : Option Addr} {n c n2 c2 n3 c3 : Nat} {a b x : List TV} (hA : ArgT w A n c a) (hB : ArgT w A2 n2 c2 b) (hX : ArgT w A3 n3 c3 x) :
    Calls Try.prog 7 #[.slice A n c, .slice A2 n2 c2, .slice A3 n3 c3] w fun e w' => e = .returned (.bool true) ∧ Mod No w w' := by
  have hk := known15 w
  have H0 := Lib.hid (And.intro hA (And.intro hB hX))
  have hl := fun (W : World) (hm : Mod No w W) => light_call (hA.mod hm) (hB.mod hm) (ArgC.nil W)
  have hl2 := fun (W : World) (hm : Mod No w W) => light_call (hX.mod hm) (ArgT.nil W) (ArgC.nil W)
  obtain ⟨r, hr⟩ : ∃ r, r = light15 a b [] := ⟨_, rfl⟩
  obtain ⟨r2, hr2⟩ : ∃ r, r = light15 x [] [] := ⟨_, rfl⟩
  rw [← hr] at hl
  rw [← hr2] at hl2
  have HR := Lib.hid (And.intro hr hr2)
  have HK := Lib.hid hk
  have HL := Lib.hid hl
  have HL2 := Lib.hid hl2
  clear hA hB hX hk hl hl2 hr hr2
  go_enter Try.func7, Try.ntmps7
  go_upto_region 3 with (go_at_call 8; refine HK.out.mono ?_; rintro e w1 ⟨rfl, m1⟩; have M1 := Lib.hid m1; clear m1)
  cases r with
  | false =>
    go_wp2_with (go_at_call 9; refine (HL.out _ M1.out).mono ?_; rintro e w2 ⟨rfl, m2⟩; have M2 := Lib.hid (M1.out.trans m2); clear m2)
    go_ret
    exact ⟨rfl, M2.out⟩
  | true =>
    cases r2 with
    | false =>
      go_wp2_with (first
        | (go_at_call_of 9 (Value.slice A n c); refine (HL.out _ M1.out).mono ?_; rintro e w2 ⟨rfl, m2⟩; have M2 := Lib.hid (M1.out.trans m2); clear m2)
        | (go_at_call_of 9 (Value.slice A3 n3 c3); refine (HL2.out _ M2.out).mono ?_; rintro e w3 ⟨rfl, m3⟩; have M3 := Lib.hid (M2.out.trans m3); clear m3))
      go_ret
      exact ⟨rfl, M3.out⟩
    | true =>
      obtain ⟨h1, h2, _⟩ := light15_of HR.out.1.symm
      obtain ⟨h3, _, _⟩ := light15_of HR.out.2.symm
      have hta := tvo_of H0.out.1.row H0.out.1.op h1.2
      have htb := tvo_of H0.out.2.1.row H0.out.2.1.op h2.2
      have htx := tvo_of H0.out.2.2.row H0.out.2.2.op h3.2
      have hd := fun (U : World) (hm : Mod No w U) => diff_o (c := c) (d := c2) (hta.mod hm) H0.out.1.len (by omega) (htb.mod hm) H0.out.2.1.len (by omega)
      have hd2 := fun (U : World) (hm : Mod No w U) => diff_ok (c := c2) (c2 := c3) b x (htb.mod hm).tvl H0.out.2.1.len (by omega) (htb.mod hm).small (htx.mod hm).tvl H0.out.2.2.len (by omega) (htx.mod hm).small (here_no U)
      have hx0 := fun (U : World) (hm : Mod No w U) => apply_o (c := c3) (C := none) (m := 0) (d := 0) (htx.mod hm) H0.out.2.2.len (by omega) (CVo.nil U none) rfl (by simp)
      have HT := Lib.hid (And.intro hta (And.intro htb (And.intro htx (And.intro h1.1 (And.intro h2.1 h3.1)))))
      have HD := Lib.hid hd
      have HD2 := Lib.hid hd2
      have HX0 := Lib.hid hx0
      clear hta htb htx hd hd2 hx0 h1 h2 h3
      go_upto_region 6 with (first
        | (go_at_call_of 9 (Value.slice A n c); refine (HL.out _ M1.out).mono ?_; rintro e w2 ⟨rfl, m2⟩; have M2 := Lib.hid (M1.out.trans m2); clear m2)
        | (go_at_call_of 9 (Value.slice A3 n3 c3); refine (HL2.out _ M2.out).mono ?_; rintro e w3 ⟨rfl, m3⟩; have M3 := Lib.hid (M2.out.trans m3); clear m3)
        | (go_at_call_of 17 (Value.slice A n c); refine (HD.out _ M3.out).mono ?_; rintro e w4 ⟨A4, c4, L4, rfl, hc4, ht4, hl4, m4⟩;
           obtain ⟨v5, w5, hrun5, hown5, hm5⟩ := cgs_append (base := w4.heap.size) (v := .slice none 0 0) (L := []) ⟨by simp, .inl ⟨rfl, rfl⟩⟩ (c := c4) hc4.cvl.1 (fun y hy => ⟨_, _, hc4.cvl.2 y hy⟩) (by have h9 := HT.out.2.2.2.1; have h8 := HT.out.2.2.2.2.1; simp; omega) (Nat.le_refl _);
           have H4 := Lib.hid (And.intro hc4 (And.intro ht4 (And.intro hl4 (And.intro hown5 (And.intro (hm5.mono (G := No) (fun b f => by cases f)) (M3.out.trans m4)))))); clear hc4 ht4 hl4 hown5 hm5 m4)
        | (go_at_call_of 17 (Value.slice A2 n2 c2); refine (HD2.out _ (H4.out.2.2.2.2.2.trans H4.out.2.2.2.2.1)).mono ?_; rintro e w6 ⟨v6, L6, rfl, hol, hLc, hLs, hLl, m6⟩;
           obtain ⟨A6, c6, rfl, hc6, hcv6⟩ := hol.cvl;
           obtain ⟨v7, w7, hrun7, hown7, hm7⟩ := cgs_append (base := w4.heap.size) (own_mod H4.out.2.2.2.1 m6 (fun _ _ f => f)) (c := c6) hcv6.1 (fun y hy => ⟨_, _, hcv6.2 y hy⟩) (by have h7 := H4.out.2.2.1; have h9 := HT.out.2.2.2.1; have h8 := HT.out.2.2.2.2.1; have h6 := HT.out.2.2.2.2.2; simp; omega) (by have h1 := H4.out.2.2.2.2.1.size; have h2 := m6.size; omega);
           have H6 := Lib.hid (And.intro hcv6 (And.intro hLc (And.intro hLs (And.intro hLl (And.intro hown7 (And.intro hm7 m6)))))); clear hcv6 hLc hLs hLl hown7 hm7 m6 hol hc6))
      obtain ⟨A7, c7, rfl, _, hrow7⟩ := RowAt.of_owns H6.out.2.2.2.2.1
      have hf : ∀ g, v5.ownBlock = some g → w4.heap.size ≤ g ∧ g < w5.heap.size := fun g hg => own_block_lt H4.out.2.2.2.1 hg
      have hcv : CVo w7 A7 ([] ++ L4 ++ L6) := by
        refine ⟨⟨hrow7.mono (fun b hb _ => hb), fun y hy => ?_⟩, fun y hy => ?_⟩
        · have hy' : y ∈ L4 ∨ y ∈ L6 := by simpa using hy
          rcases hy' with hy | hy
          · have e1 := (H4.out.1.cvl.2 y hy).keeps ((H4.out.2.2.2.2.1.trans H6.out.2.2.2.2.2.2).keeps (fun _ _ _ f => f))
            exact (e1.keeps (H6.out.2.2.2.2.2.1.keeps (fun b _ (hs : b < w4.heap.size) f => by have := hf b f; omega))).lt (fun b hb _ => hb)
          · exact ((H6.out.1.2 y hy).keeps (H6.out.2.2.2.2.2.1.keeps (fun b _ (hs : w5.heap.size ≤ b) f => by have := hf b f; omega))).lt (fun b hb _ => hb)
        · have hy' : y ∈ L4 ∨ y ∈ L6 := by simpa using hy
          rcases hy' with hy | hy
          · exact H4.out.1.lt y hy
          · refine ⟨?_, (H6.out.2.2.1 y hy).1⟩
            have h1 : y.chg ∈ L6.map Cg.chg := List.mem_map.2 ⟨y, hy, rfl⟩
            rw [H6.out.2.1] at h1
            exact dff_light (fun z hz => by obtain ⟨t, ht, rfl⟩ := List.mem_map.1 hz; exact HT.out.2.2.1.lt t ht) h1
      have hM7 : Mod No w w7 := ((H4.out.2.2.2.2.2.trans H4.out.2.2.2.2.1).trans H6.out.2.2.2.2.2.2).trans' H6.out.2.2.2.2.2.1 (fun i hi f => by have h1 := (hf i f).1; have h2 := H4.out.2.2.2.2.2.size; omega)
      have hlen : ([] ++ L4 ++ L6).length ≤ 10000 := by have h7 := H4.out.2.2.1; have h5 := H6.out.2.2.2.1; have h9 := HT.out.2.2.2.1; have h8 := HT.out.2.2.2.2.1; have h6 := HT.out.2.2.2.2.2; simp; omega
      have hap := apply_o (c := c) (d := c7) (HT.out.1.mod hM7) H0.out.1.len (by have := HT.out.2.2.2.1; omega) hcv rfl hlen
      have hmap : ([] ++ L4 ++ L6).map Cg.chg = dff (a.map (·.t)) (b.map (·.t)) ++ dff (b.map (·.t)) (x.map (·.t)) := by
        rw [List.nil_append, List.map_append, H4.out.2.1, H6.out.2.1]
      rw [hmap, chain_eq] at hap
      obtain ⟨l7, hl7⟩ : ∃ l, l = ([] ++ L4 ++ L6).length := ⟨_, rfl⟩
      rw [← hl7] at hap hlen ⊢
      have HAP := Lib.hid hap
      have HM7 := Lib.hid hM7
      clear hrow7 hf hcv hM7 hap hmap hrun5 hrun7 hl7
      go_upto_region 7 with (go_at_call 13; refine HAP.out.mono ?_; rintro e w8 ⟨A8, c8, X, rfl, hx, hxt, hxl, m8⟩; have H8 := Lib.hid (And.intro hx (And.intro hxt (And.intro (by have h1 : X.length ≤ a.length + l7 := hxl; have h2 := HT.out.2.2.2.1; omega : X.length ≤ 20000) (HM7.out.trans m8)))); clear hx hxt hxl m8)
      have hn1 : dff (X.map (·.t)) (x.map (·.t)) = [] := dff_nil (fun n => by rw [H8.out.2.1]; exact applied_nil_look _ n)
      have hsd : Sd TV.nm X := by
        have h1 := applied_sd (nm := Ten.name) (x.map (·.t)) []
        rw [← H8.out.2.1] at h1
        unfold Sd at h1
        rw [List.pairwise_map] at h1
        exact h1
      have hXl : X.length ≤ 20 := by
        have h1 := applied_len (l := x) (cs := []) (L := X) H8.out.2.1
        have h2 := HT.out.2.2.2.2.2
        simp at h1
        omega
      obtain ⟨lx, hlx⟩ : ∃ lx, lx = X.length := ⟨_, rfl⟩
      have hxd := fun (U : World) (hm : Mod No w8 U) => diff_o (c := c8) (d := c3) (H8.out.1.mod hm) hlx (by omega) (HT.out.2.2.1.mod (H8.out.2.2.2.trans hm)) H0.out.2.2.len (by have := HT.out.2.2.2.2.2; omega)
      rw [hn1] at hxd
      rw [← hlx]
      have hl20 : lx ≤ 20 := by omega
      have HXD := Lib.hid hxd
      have HS := Lib.hid (And.intro hsd hlx)
      clear hn1 hsd hXl hlx hxd
      go_wp2_with fail
      go_loopw [9] (fun i wr => ∃ k : Nat, i = .int .i64 k ∧ 1 ≤ k ∧ k ≤ lx + 1 ∧ (lx = 0 ∨ k ≤ lx) ∧ ∃ q, wr = w8.drewN q) (fun i _ => lx + 1 - (intOf i).toNat)
      case atStart => exact ⟨1, rfl, by omega, by omega, by omega, 0, rfl⟩
      case round =>
        obtain ⟨k, rfl, hk1, hk, hk0, dq, rfl⟩ := hrel
        by_cases hlt : k < lx
        · obtain ⟨p, hp⟩ : ∃ p, X[k - 1]? = some p := ⟨_, List.getElem?_eq_getElem (by have := HS.out.2; omega)⟩
          obtain ⟨q, hq⟩ : ∃ q, X[k]? = some q := ⟨_, List.getElem?_eq_getElem (by have := HS.out.2; omega)⟩
          obtain ⟨g, o, e1, _, _, hcp⟩ := H8.out.1.tvl.1.elem TV.cells 33 TV.len (by omega) hp
          obtain ⟨g', o', e2, _, _, hcq⟩ := H8.out.1.tvl.1.elem TV.cells 33 TV.len (by omega) hq
          rw [e1] at e2
          cases e2
          subst e1
          have cp := hcp 0 (.string (str p.nm)) rfl
          have cq := hcq 0 (.string (str q.nm)) rfl
          rw [Nat.add_zero] at cp cq
          have hpq : p.nm < q.nm := by
            obtain ⟨l1, e1⟩ := List.getElem?_eq_some_iff.1 hp
            obtain ⟨l2, e2⟩ := List.getElem?_eq_some_iff.1 hq
            have := List.pairwise_iff_getElem.1 HS.out.1 (k - 1) k l1 l2 (by omega)
            rwa [e1, e2] at this
          obtain ⟨KP, hKP⟩ : ∃ K, K = str p.nm := ⟨_, rfl⟩
          obtain ⟨KQ, hKQ⟩ : ∃ K, K = str q.nm := ⟨_, rfl⟩
          have t1 : Op.bytesLess KP.toList KQ.toList = true := by rw [hKP, hKQ, less_str]; exact decide_eq_true hpq
          rw [← hKP] at cp
          rw [← hKQ] at cq
          obtain ⟨j, rfl⟩ : ∃ j, k = j + 1 := ⟨k - 1, by omega⟩
          rw [Nat.add_sub_cancel] at cp
          have p0 : IntKind.i64.wrap (((j + 1 : Nat) : Int) - 1) = (j : Int) := by
            rw [show (((j + 1 : Nat) : Int) - 1) = (j : Int) by omega]
            exact IntWalk.i64_in _ (by omega)
          have p1 : (0:Int) ≤ j := by omega
          have p2 : (j:Int) < lx := by omega
          have p3 : (0:Int) ≤ ((j + 1 : Nat) : Int) := by omega
          have p4 : ((j + 1 : Nat) : Int) < lx := by omega
          have p5 : (((j + 1 : Nat) : Int)).toNat = j + 1 := by omega
          clear hp hq hcp hcq hpq hKP hKQ
          go_wp2_with fail
          go_quiet (fail)
          go_wp2_with fail
          exact ⟨⟨j + 2, by go_num, by omega, by omega, by omega, _, by first | rfl | exact World.drewN_drewN ..⟩, by simp [intOf]; omega⟩
        · have t0 : decide ((k : Int) < (lx : Int)) = false := decide_eq_false (by omega)
          have mD : Mod No w8 (w8.drewN dq) := (Mod.refl _ _).drewN _
          have HDq := Lib.hid mD
          clear mD
          go_wp2_with (first
            | (go_at_call 13; refine (HX0.out _ (H8.out.2.2.2.trans HDq.out)).mono ?_; rintro e w9 ⟨A9, c9, Y, rfl, hy, hyt, hyl, m9⟩; have H9 := Lib.hid (And.intro hy (And.intro hyt (And.intro (HDq.out.trans m9) ((H8.out.2.2.2.trans HDq.out).trans m9)))); clear hy hyt hyl m9)
            | (go_at_call 12; refine (tens_o (H8.out.1.mod H9.out.2.2.1) H9.out.1 (H8.out.2.1.trans H9.out.2.1.symm) HS.out.2 rfl (by have := H8.out.2.2.1; omega)).mono ?_; rintro e w10 ⟨rfl, m10⟩; have M10 := Lib.hid (And.intro (H9.out.2.2.1.trans m10) (H9.out.2.2.2.trans m10)); clear m10)
            | (go_at_call 17; refine (HXD.out _ M10.out.1).mono ?_; rintro e w11 ⟨A11, c11, L11, rfl, hc11, ht11, hl11, m11⟩; obtain rfl := List.map_eq_nil_iff.1 ht11; have M11 := Lib.hid (M10.out.2.trans m11); clear hc11 ht11 hl11 m11))
          go_ret
          exact ⟨rfl, M11.out⟩
end

end Go.Proofs.Ytkiikbajbikdeaa
