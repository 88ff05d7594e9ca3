/-
  The law CfgBack, walked.
-/
import Derived.Test.YtcnemhhbihhcfaaLawG
import Derived.Test.YtcnemhhbihhcfaaRdS
import Derived.Test.YtcnemhhbihhcfaaRefC
namespace Go.Proofs.Ytcnemhhbihhcfaa
open Go.RowKit
set_option linter.unusedVariables false

/-- A tenant stored into the middle of a block that is known whole. -/
theorem tenStore_in {W : World} {b o : Nat} {cur CA : Array Value} {t : TypeId} (h : W.heap[b]? = some (.cells cur t (0, 0))) (ho : o + 33 ≤ cur.size) (hc : CA.size = 33) (h1 : CA.all (·.oneCell') = true) :
    (tenStore (.pointer (some ⟨b, o, none⟩)) (.agg CA)).run Try.prog W = .ok () (W.setRow b (cur.toList.take o ++ CA.toList ++ cur.toList.drop (o + 33)).toArray) := by
  have hl : CA.toList.length = 33 := by simpa using hc
  have := run_storeCells_at (P := Try.prog) b o t CA.toList 0 cur W h (by rw [hl]; omega) (fun v hv => (Array.all_eq_true_iff_forall_mem.1 h1) v (by simpa using hv))
  simp only [Nat.add_zero, hl] at this
  simp only [tenStore, Instr.storeAt, Instr.sureAddr, Sem.run_bind, Sem.run_pure, Result.andThen_ok]
  cases hq : Try.prog.info? 30 with
  | none => have := tenSize; simp [hq] at this
  | some i =>
    have hs : i.size = 33 := by have := tenSize; simpa [hq] using this
    simp [storeVar, sizeOf, typeInfo, hq, Value.cells, hs, hc, this]
theorem cChg_in (put : Bool) (name : List UInt8) (x y : TV) : (((cChg put name x).toList.take 2 ++ y.cells.toArray.toList ++ (cChg put name x).toList.drop (2 + 33)).toArray : Array Value) = cChg put name y := by
  have e : (cChg put name x).toList = [Value.bool put, .string (str name)] ++ x.cells := by simp [cChg]
  rw [e]
  have h1 : ([Value.bool put, .string (str name)] ++ x.cells).take 2 = [Value.bool put, .string (str name)] := by rw [List.take_append_of_le_length (by simp)]; rfl
  have h2 : ([Value.bool put, .string (str name)] ++ x.cells).drop (2 + 33) = [] := List.drop_of_length_le (by rw [List.length_append, TV.len]; simp)
  rw [h1, h2]
  simp [cChg]
theorem conStore_new (W : World) (CA : Array Value) (hc : CA.size = 29) (h1 : CA.all (·.oneCell') = true) : (conStore (.pointer (some ⟨W.heap.size, 0, none⟩)) (.agg CA)).run Try.prog (W.alloc (.cells zCon 48)) = .ok () (W.alloc (.cells CA 48)) := by
  rw [← setRow_alloc W zCon CA]
  exact conStore_row (at10 W _) rfl hc h1
theorem rowb {W : World} {g : Nat} {X : List UInt8} (hXn : X ≠ []) (h : ∀ j u, (bcells X)[j]? = some u → W.cell? ⟨g, j, none⟩ = some u) : RowAt (fun b => b < W.heap.size) W (some ⟨g, 0, none⟩) (bcells X) := by
  refine .inr ⟨g, 0, rfl, ?_, fun j u hj => by rw [Nat.zero_add]; exact h j u hj⟩
  obtain ⟨u, hu⟩ : ∃ u, (bcells X)[0]? = some u := ⟨_, List.getElem?_eq_getElem (by rw [bcells_length]; exact List.length_pos_iff.2 hXn)⟩
  exact World.block_lt_of_cell? _ _ (h 0 u hu)
theorem rowb_take {W : World} {A : Option Addr} {S : Nat → Prop} {X : List UInt8} (h : RowAt S W A (bcells X)) (m : Nat) : RowAt S W A (bcells (X.take m)) := by
  rcases h with h | ⟨b, o, e, hs, hc⟩
  · have : X = [] := List.eq_nil_of_length_eq_zero (by have := congrArg List.length h; simpa [bcells_length] using this)
    subst this
    simp only [List.take_nil]
    exact .nil _ _ _
  · refine .inr ⟨b, o, e, hs, fun j u hj => hc j u ?_⟩
    have hjl := (List.getElem?_eq_some_iff.1 hj).1
    rw [bcells_length, List.length_take] at hjl
    simp only [bcells, List.map_take] at hj ⊢
    rwa [List.getElem?_take_of_lt (by omega)] at hj

theorem zero_ok : Ten.zero.Ok := ⟨by decide, by decide, by decide, by decide, by decide, by decide, (fun x hx => by cases hx), (fun x hx => by cases hx), (fun x hx => by cases hx)⟩
theorem zero_fits : Ten.zero.Fits := ⟨by decide, by decide, by decide, by decide, by decide, by decide, by decide⟩
/-- What opening settings gives where they are refused, where they are read. -/
def OfP (w : World) (e : Ending) (w' : World) : Prop := ∃ CA : Array Value, CA.size = 29 ∧ CA.all (·.oneCell') = true ∧ e = .returned (.tuple #[.agg CA, .int .i64 70]) ∧ Mod No w w'
def OsP (c : Con) (n : Nat) (l : List TV) (w : World) (e : Ending) (w' : World) : Prop := ∃ (B : Option Addr) (q : Nat) (l' : List TV), e = .returned (.tuple #[.agg (c.cells (.slice B n q)), .int .i64 0]) ∧ l'.map (·.t) = l.map (·.t) ∧ TVl (fun b => w.heap.size ≤ b) w' B l' ∧ Mod No w w'
theorem openCon_bad {w : World} {A : Option Addr} {c : Nat} (B : List UInt8) (hrow : RowAt (fun b => b < w.heap.size) w A (bcells B)) (hc : B.length ≤ c) (hB : B.length ≤ 100000000) (h : (ocf B).2.2 = 70) : Calls Try.prog 25 #[.slice A B.length c] w (OfP w) := by
  refine (openConfig_ok B hrow hc hB).mono fun e w' ⟨vt, l, e1, e2, e3, e4⟩ => ⟨(ocf B).1.cells vt, con_size _ _, ?_, by rw [e1, h]; rfl, e4⟩
  obtain ⟨P, p, e, _⟩ := own_rowAt e3.own
  rw [e]
  exact con_one _ _ _ _
theorem openCon_good {w : World} {A : Option Addr} {c : Nat} (B : List UInt8) (hrow : RowAt (fun b => b < w.heap.size) w A (bcells B)) (hc : B.length ≤ c) (hB : B.length ≤ 100000000) {cc : Con} {l : List TV} (h : ocf B = (cc, l.map (·.t), 0)) : Calls Try.prog 25 #[.slice A B.length c] w (OsP cc l.length l w) := by
  refine (openConfig_ok B hrow hc hB).mono fun e w' ⟨vt, l', e1, e2, e3, e4⟩ => ?_
  rw [h] at e1 e2
  have hlen : l'.length = l.length := by have := congrArg List.length e2; simpa using this
  obtain ⟨P, p, ev, r⟩ := own_rowAt e3.own
  rw [hlen] at ev
  subst ev
  exact ⟨P, p, l', e1, e2, ⟨r, fun x hx => (e3.rows x hx).imp (fun b hb => hb.1)⟩, e4⟩


set_option maxRecDepth 100000 in
set_option maxHeartbeats 8000000 in
theorem cfgBack_walk {w : World} (c : Con) (A : Option Addr) (k : Nat) (l : List TV) (hip : c.ip < 4294967296) (hdr : c.drain < 4294967296) (hl63 : l.length ≤ 9223372036854775807) (hrow : RowAt (fun _ => True) w A (tvCells l)) (hlo : ∀ x ∈ l, x.Open w)
    (put : Bool) (name : List UInt8) (x : TV) (hx : x.Open w) (bm : UInt8) :
    Calls Try.prog 8 #[.agg (c.cells (.slice A l.length k)), .agg (cChg put name x), .int .u8 (bm.toNat : Int)] w fun e w' => e = .returned (.bool true) ∧ Mod No w w' := by
  obtain ⟨n, hn⟩ : ∃ n, n = l.length := ⟨_, rfl⟩
  obtain ⟨nn, hnn⟩ : ∃ nn, nn = name.length := ⟨_, rfl⟩
  obtain ⟨CA, hCA⟩ : ∃ CA, CA = c.cells (.slice A l.length k) := ⟨_, rfl⟩
  obtain ⟨CB, hCB⟩ : ∃ CB, CB = cChg put name x := ⟨_, rfl⟩
  obtain ⟨TA, hTA⟩ : ∃ TA, TA = x.cells.toArray := ⟨_, rfl⟩
  have bA := box_con CA (by rw [hCA]; rfl)
  have bB := box_chg CB (by rw [hCB]; exact cChg_size _ _ _)
  obtain ⟨w0, hw0⟩ : ∃ w0, w0 = (w.alloc (.cells CA 48)).alloc (.cells CB 38) := ⟨_, rfl⟩
  have hm0 : Mod No w w0 := by rw [hw0]; exact ((Mod.refl _ _).alloc _).alloc _
  have hz0 : w0.heap.size = w.heap.size + 2 := by rw [hw0]; simp
  have hA0 : w0.heap[w.heap.size]? = some (.cells CA 48 (0, 0)) := by rw [hw0]; exact at20 w _ _
  have hB0 : w0.heap[w.heap.size + 1]? = some (.cells CB 38 (0, 0)) := by rw [hw0]; exact at21 w _ _
  -- what is read of the two blocks, whenever
  have hrd : ∀ W, Mod No w0 W → W.cell? ⟨w.heap.size, 28, none⟩ = some (.slice A n k) ∧ W.cell? ⟨w.heap.size + 1, 1, none⟩ = some (.string (str name)) ∧ (tenLoad (.pointer (some ⟨w.heap.size + 1, 2, none⟩))).run Try.prog W = .ok (.agg TA) W ∧ (conLoad (.pointer (some ⟨w.heap.size, 0, none⟩))).run Try.prog W = .ok (.agg CA) W ∧ (chgLoad (.pointer (some ⟨w.heap.size + 1, 0, none⟩))).run Try.prog W = .ok (.agg CB) W ∧ W.cell? ⟨w.heap.size + 1, 0, none⟩ = some (.bool put) := fun W hW => by
    have h1 := hW.obj hA0 id
    have h2 := hW.obj hB0 id
    have h2' := h2
    rw [hCB] at h2'
    refine ⟨by rw [blk_cell h1, hCA, hn]; rfl, by rw [blk_cell h2']; exact cChg1 _ _ _, by rw [hTA]; exact chgTen_run h2', conLoad_run h1 (by rw [hCA]; rfl), chgLoad_run h2 (by rw [hCB]; exact cChg_size _ _ _), by rw [blk_cell h2']; exact cChg0 _ _ _⟩
  have hrow' := hrow.mono (S' := fun b => b < w.heap.size) (fun b hb _ => hb)
  have hlo' : ∀ x ∈ l, x.Rows (fun b => b < w.heap.size) w ∧ x.t.wf := fun x hx => ⟨(hlo x hx).here, (hlo x hx).wf⟩
  have hx' := hx.here
  have hxw := hx.wf
  have hkp : ∀ W, Mod (fun b => b = w.heap.size + 1) w0 W → Keeps (fun b => b < w.heap.size) w W := fun W hW => (hm0.mono (fun _ f => f.elim)).trans hW |>.keeps (fun b _ hb f => by omega)
  have hkt : ∀ W, Mod No w0 W → Keeps (fun _ => True) w W := fun W hW => (hm0.trans hW).keeps (fun _ _ _ f => f)
  obtain ⟨r1, hr1⟩ : ∃ r1, r1 = lights l 20 := ⟨_, rfl⟩
  obtain ⟨r2, hr2⟩ : ∃ r2, r2 = light x.t := ⟨_, rfl⟩
  have hK1 : ∀ W, Mod No w0 W → Calls Try.prog 19 #[.slice A n k, .int .i64 20] W fun e w' => e = .returned (.bool r1) ∧ Mod No W w' := fun W hW => by
    rw [hr1, hn]
    exact lights_ok l 20 (by decide) hl63 (hrow.keeps (hkt W hW)) (fun y hy => ⟨(hlo y hy).rows.keeps (hkt W hW), (hlo y hy).wf⟩)
  have hK2 : ∀ W, Mod No w0 W → Calls Try.prog 10 #[.agg TA] W fun e w' => e = .returned (.bool r2) ∧ Mod No W w' := fun W hW => by
    rw [hr2, hTA]
    exact light_ok x.t _ (hx.val.keeps (hkt W hW))
  have hK3 : ∀ W, Mod No w0 W → Calls Try.prog 13 #[.agg TA] W (FitsP x.t W) := fun W hW => by
    rw [hTA]; exact fits_ok x (hx.rows.keeps (hkt W hW))
  have hss : (str name).size = nn := by rw [str_size, hnn]
  rw [← hCA, ← hCB]
  have HRD := Lib.hid hrd
  have HK1 := Lib.hid hK1
  have HK2 := Lib.hid hK2
  have HK3 := Lib.hid hK3
  have HM0 := Lib.hid hm0
  have HW0 := Lib.hid hw0
  have HL := Lib.hid (And.intro hr1 (And.intro hr2 (And.intro hn (And.intro hnn (And.intro hrow' (And.intro hlo' (And.intro hx' (And.intro hxw (And.intro hkp (And.intro hip hdr))))))))))
  have HE := Lib.hid (And.intro hCA (And.intro hCB (And.intro hTA (And.intro hA0 (And.intro hB0 hz0)))))
  have HKN := Lib.hid known_ok
  have hal := tenAlloc_run
  have hac := chgAlloc_run
  have hao := conAlloc_run
  have pn63 : n ≤ 9223372036854775807 := by rw [hn]; exact hl63
  clear hrd hK1 hK2 hK3 hm0 hw0 hkp hkt hrow hrow' hlo hlo' hx hx' hxw hA0 hB0 hCA hCB hTA hr1 hr2 hn hnn hip hdr hl63 hz0
  go_enter Try.func8, Try.ntmps8
  go_wp2_with fail
  rw [← HW0.out]
  refine (HKN.out w0).mono ?_
  rintro e w1 ⟨rfl, k1⟩
  obtain ⟨c1, _⟩ := HRD.out w1 k1
  cases r1
  · go_wp2_with (first | (go_at_call 19; refine (HK1.out _ k1).mono ?_; rintro e w2 ⟨rfl, m2⟩; have H2 := Lib.hid m2; clear m2) | fail)
    go_ret
    exact ⟨rfl, (HM0.out.trans k1).trans H2.out⟩
  go_wp2_with fail
  refine (HK1.out _ k1).mono ?_
  rintro e w2 ⟨rfl, m2⟩
  have k2 : Mod No w0 w2 := Mod.trans k1 m2
  obtain ⟨_, _, t2, _⟩ := HRD.out w2 k2
  clear c1 k1 m2
  go_wp2_with fail
  refine (HK2.out _ k2).mono ?_
  rintro e w3 ⟨rfl, m3⟩
  have k3 : Mod No w0 w3 := Mod.trans k2 m3
  obtain ⟨_, d3, t3, _⟩ := HRD.out w3 k3
  clear t2 k2 m3
  cases r2
  · go_wp2
    go_ret
    exact ⟨rfl, HM0.out.trans k3⟩
  by_cases h255 : nn ≤ 255
  case neg =>
    have p3 : decide ((255 : Int) < nn) = true := by rw [decide_eq_true_eq]; omega
    go_wp2
    go_ret
    exact ⟨rfl, HM0.out.trans k3⟩
  have p3 : decide ((255 : Int) < nn) = false := by rw [decide_eq_false_iff_not]; omega
  go_wp2_with fail
  refine (HK3.out _ k3).mono ?_
  rintro e w4 ⟨b4, rfl, hf4, m4⟩
  have k4 : Mod No w0 w4 := Mod.trans k3 m4
  clear d3 t3 k3 m4
  cases b4
  · clear hf4
    go_wp2
    go_ret
    exact ⟨rfl, HM0.out.trans k4⟩
  have hfx := hf4 rfl
  have K4 := Lib.hid (And.intro k4 hfx)
  clear hf4 k4 hfx
  go_wp2_with fail
  go_loopw [7] (fun i wr => ∃ j : Nat, i = .int .i64 j ∧ j ≤ n ∧ (∀ y ∈ l.take j, y.t.Fits) ∧ Mod No w0 wr) (fun i _ => n - (intOf i).toNat)
  case atStart => exact ⟨0, rfl, by omega, by simp, K4.out.1⟩
  case round =>
    obtain ⟨j, rfl, hj, hfa, kw⟩ := hrel
    obtain ⟨c5, _⟩ := HRD.out wr kw
    have HJ := Lib.hid (And.intro hfa kw)
    clear hfa
    by_cases hlt : j < n
    · obtain ⟨z, hz⟩ : ∃ z, l[j]? = some z := ⟨_, List.getElem?_eq_getElem (by have := HL.out.2.2.1; omega)⟩
      obtain ⟨hzr, hzw⟩ := HL.out.2.2.2.2.2.1 z (List.mem_of_getElem? hz)
      have hkp := HL.out.2.2.2.2.2.2.2.2.1 wr (kw.mono (fun _ f => f.elim))
      obtain ⟨b, o', rfl, hbS, hblt, hx0⟩ := (HL.out.2.2.2.2.1.keeps hkp).elem TV.cells 33 TV.len (by omega) hz
      have hldz := tenLoad_mid wr b (o' + j * 33) z.cells rfl hx0
      have hF := fits_ok z ((hzr.keeps hkp).imp (S' := fun _ => True) (fun _ _ => trivial))
      obtain ⟨TZ, hTZ⟩ : ∃ TZ, TZ = z.cells.toArray := ⟨_, rfl⟩
      rw [← hTZ] at hldz hF
      have HF := Lib.hid hF
      have HZ := Lib.hid hz
      have p1 : (0:Int) ≤ j := by omega
      have p2 : (j:Int) < n := by omega
      clear hz hzr hzw hkp hx0 hF hTZ kw
      go_wp2_with fail
      refine HF.out.mono ?_
      rintro e w7 ⟨b7, rfl, hb7, m7⟩
      have HM7 := Lib.hid m7
      clear m7
      cases b7
      · clear hb7
        go_wp2
        go_ret
        exact ⟨rfl, HM0.out.trans (HJ.out.2.trans HM7.out)⟩
      have hfz := hb7 rfl
      have HFZ := Lib.hid hfz
      clear hb7 hfz
      go_wp2
      refine ⟨⟨j + 1, by go_num, by omega, fun y hy => ?_, HJ.out.2.trans HM7.out⟩, by simp [intOf]; omega⟩
      rw [take_snoc' HZ.out] at hy
      rcases List.mem_append.1 hy with hy | hy
      · exact HJ.out.1 y hy
      · obtain rfl : y = z := by simpa using hy
        exact HFZ.out
    obtain rfl : n = j := by omega
    have hlfit : ∀ y ∈ l, y.t.Ok ∧ y.t.Fits := fun y hy => ⟨(HL.out.2.2.2.2.2.1 y hy).2.ok, HJ.out.1 y (by rw [List.take_of_length_le (by have := HL.out.2.2.1; omega)]; exact hy)⟩
    obtain ⟨l1, l2⟩ := lights_of HL.out.1.symm
    have hlx := light_of HL.out.2.1.symm
    have hip := HL.out.2.2.2.2.2.2.2.2.2.1
    have hdr := HL.out.2.2.2.2.2.2.2.2.2.2
    have hn20 : n ≤ 20 := by rw [HL.out.2.2.1]; exact l1
    obtain ⟨_, _, _, q5, _, _⟩ := HRD.out wr kw
    obtain ⟨X, hX⟩ : ∃ X, X = wcon c l := ⟨_, rfl⟩
    have hXl : X.length ≤ 1000000 := by
      obtain ⟨H, hH, _, hH8⟩ := wcon_len c l (by omega)
      have h1 := wtens_len l
      have h2 : l.length * 40000 ≤ 20 * 40000 := Nat.mul_le_mul_right _ l1
      rw [hX, hH, List.length_append]
      omega
    have hXn : X ≠ [] := by
      rw [hX]
      intro e
      have := congrArg List.length e
      simp [wcon, cfields, be_length] at this
    have hcf : Calls Try.prog 21 #[.agg CA] wr fun e w' => ∃ v, e = .returned v ∧ OwnB w' wr.heap.size v X ∧ Mod No wr w' := by
      have hk := HL.out.2.2.2.2.2.2.2.2.1 wr (kw.mono (fun _ f => f.elim))
      have hz : w.heap.size ≤ wr.heap.size := Nat.le_trans HM0.out.size kw.size
      rw [HE.out.1, hX]
      exact cfgConfig_ok c _ l hip hdr ⟨A, k, rfl, (HL.out.2.2.2.2.1.keeps hk).mono (fun b _ hb => by omega)⟩ (fun y hy => ⟨(hlfit y hy).1, by have := (light_of (l2 y hy)).1; omega, ((HL.out.2.2.2.2.2.1 y hy).1.keeps hk).imp (fun b hb => by omega)⟩)
    have HCF := Lib.hid hcf
    have HX := Lib.hid (And.intro hX (And.intro hXl (And.intro hXn (And.intro hlfit (And.intro l2 (And.intro hlx (And.intro hip (And.intro hdr hn20))))))))
    clear hcf hX hXl hXn hlfit l1 l2 hlx hip hdr kw
    go_wp2_with fail
    refine HCF.out.mono ?_
    rintro e w8 ⟨v8, rfl, o8, m8⟩
    obtain ⟨g, cg, rfl, hg1, _, hcg, cell8⟩ := OwnB.at o8 HX.out.2.2.1
    obtain ⟨xn, hxn⟩ : ∃ xn, xn = X.length := ⟨_, rfl⟩
    rw [← hxn] at hcg ⊢
    have K8 := Lib.hid (show Mod No w0 w8 from HJ.out.2.trans m8)
    have hgn : w.heap.size + 2 ≤ g := by have := HJ.out.2.size; have := HE.out.2.2.2.2.2; omega
    have hcells : ∀ W, Mod (fun b => b = w.heap.size + 1) w8 W → ∀ j u, (bcells X)[j]? = some u → W.cell? ⟨g, j, none⟩ = some u := fun W hW j u hj => hW.cell (cell8 j u hj) (by simp; omega)
    have hxn6 : xn ≤ 1000000 := by rw [hxn]; exact HX.out.2.1
    have hxn0 : 0 < xn := by rw [hxn]; exact List.length_pos_iff.2 HX.out.2.2.1
    have hgood : Calls Try.prog 25 #[.slice (some ⟨g, 0, none⟩) xn cg] w8 (OsP c l.length l w8) := by
      have h := openCon_good (w := w8) (A := some ⟨g, 0, none⟩) (c := cg) X (rowb HX.out.2.2.1 (hcells w8 (Mod.refl _ _))) (by omega) (by omega) (cc := c) (l := l) (by rw [HX.out.1]; exact ocf_at c l HX.out.2.2.2.2.2.2.1 HX.out.2.2.2.2.2.2.2.1 (by have := HX.out.2.2.2.2.2.2.2.2; have := HL.out.2.2.1; omega) HX.out.2.2.2.1)
      rw [← hxn] at h
      exact h
    have HG := Lib.hid hgood
    have HC8 := Lib.hid (And.intro hcells (And.intro hxn hcg))
    clear hgood hcells hxn hcg m8 o8 cell8 hg1 q5 c5
    go_wp2_with fail
    refine HG.out.mono ?_
    rintro e w9 ⟨B9, q9, l9, rfl, e9, tv9, m9⟩
    obtain ⟨C9, hC9⟩ : ∃ C9, C9 = c.cells (.slice B9 l.length q9) := ⟨_, rfl⟩
    have hst9 := conStore_new w9 (c.cells (.slice B9 l.length q9)) rfl (con_one _ _ _ _)
    rw [← hC9] at hst9 ⊢
    obtain ⟨wA, hwA⟩ : ∃ wA, wA = w9.alloc (.cells C9 48) := ⟨_, rfl⟩
    have mA : Mod No w8 wA := by rw [hwA]; exact m9.alloc _
    have bA9 : wA.heap[w9.heap.size]? = some (.cells C9 48 (0, 0)) := by rw [hwA]; exact at10 w9 _
    have tvA : TVl (fun b => w8.heap.size ≤ b) wA B9 l9 := by rw [hwA]; exact tv9.keeps (((Mod.refl No w9).alloc _).keeps (fun _ _ _ f => f))
    have h9s : w8.heap.size ≤ w9.heap.size := m9.size
    -- the bytes with one more
    obtain ⟨i0, hi, hz0, hz1, hz2⟩ := info_parts infoU8
    have HA := Lib.hid (And.intro mA (And.intro bA9 (And.intro tvA (And.intro hC9 (And.intro e9 h9s)))))
    have HWA := Lib.hid hwA
    clear mA bA9 tvA hC9 m9 tv9 hwA e9 h9s
    have HXB := Lib.hid (And.intro (show X ++ [bm] ≠ [] by simp) (show (X ++ [bm]).length = xn + 1 by rw [List.length_append, HC8.out.2.1]; rfl))
    go_upto_region 12 with fail
    rw [← HWA.out]
    go_wp2_with (first
      | (at_builtin; refine wpList_gr (by rfl) _ _ (by rfl) HG12.out (by rfl) [bm] _ _ _ (by rfl) (by rfl) ?_ ?_ ?_ ?_; (exact World.news_of_block (at10 _ _)); (have := HC8.out.2.1; simp; omega); (exact HG12.out.mod.size); intro v12 w12 g12; replace g12 : Gr wA.heap.size (.slice none 0 0) wA v12 w12 (X ++ [bm]) := g12; obtain ⟨gb, cb, rfl, hgb1, hgb2, hgb3, cellb⟩ := OwnB.at g12.own HXB.out.1; have HG13 := Lib.hid (And.intro g12 (And.intro hgb3 cellb)); clear g12 hgb1 hgb2 hgb3 cellb; rw [HXB.out.2])
      | (at_builtin; refine wpList_gr (base := wA.heap.size) (by rfl) _ _ (by rfl) (Gr.refl (nil_own wA wA.heap.size)) (by rfl) X ⟨g, 0, none⟩ _ _ (by rfl) (by rw [HC8.out.2.1]) ?_ ?_ ?_ ?_; (intro j u hj; rw [Addr.add_lit, Nat.zero_add]; exact HC8.out.1 _ (HA.out.1.mono (fun _ f => f.elim)) j u hj); (have := HC8.out.2.1; simp; omega); (exact Nat.le_refl _); intro v11 w11 g11; have HG12 := Lib.hid (Gr.ext g11 ((Mod.refl No w11).alloc (.cells #[.int .u8 (bm.toNat : Int)] 5))); have HG11 := Lib.hid g11; clear g11)
      | fail)
    have hbad : Calls Try.prog 25 #[.slice (some ⟨gb, 0, none⟩) (xn + 1) cb] w12 (OfP w12) := by
      have h := openCon_bad (w := w12) (A := some ⟨gb, 0, none⟩) (c := cb) (X ++ [bm]) (rowb HXB.out.1 HG13.out.2.2) HG13.out.2.1 (by rw [HXB.out.2]; omega) (by rw [HX.out.1]; exact ocf_more c l HX.out.2.2.2.2.2.2.1 HX.out.2.2.2.2.2.2.2.1 (by have := HX.out.2.2.2.2.2.2.2.2; have := HL.out.2.2.1; omega) HX.out.2.2.2.1 bm)
      rw [HXB.out.2] at h
      exact h
    have HB12 := Lib.hid hbad
    clear hbad
    go_wp2_with fail
    refine HB12.out.mono ?_
    rintro e w13 ⟨C13, s13, o13, rfl, m13⟩
    have hst13 := conStore_new w13 C13 s13 o13
    have mB : Mod No w8 (w13.alloc (.cells C13 48)) := (HA.out.1.trans ((HG13.out.1.no).trans m13)).alloc _
    obtain ⟨wB, hwB⟩ : ∃ wB, wB = w13.alloc (.cells C13 48) := ⟨_, rfl⟩
    rw [← hwB] at mB
    have HB := Lib.hid (And.intro mB (show Mod No wA wB by rw [hwB]; exact ((HG13.out.1.no).trans m13).alloc _))
    have HWB := Lib.hid hwB
    clear mB hwB m13 s13 o13
    have pne : ((xn : Int) == 0) = false := by rw [beq_eq_false_iff_ne]; omega
    have px1 : (1 : Int) ≤ xn := by omega
    go_upto_region 15 with fail
    rw [← HWB.out]
    obtain ⟨m, hm⟩ : ∃ m, m = xn - 1 := ⟨_, rfl⟩
    have pm : (xn : Int) - 1 = (m : Int) := by omega
    have hsl := slice_head g xn cg m (by have := HC8.out.2.2; omega)
    have hmx : m ≤ xn := by omega
    have hcut : Calls Try.prog 25 #[.slice (some ⟨g, 0, none⟩) m cg] wB (OfP wB) := by
      have hl : (X.take m).length = m := by rw [List.length_take, ← HC8.out.2.1]; omega
      have h := openCon_bad (w := wB) (A := some ⟨g, 0, none⟩) (c := cg) (X.take m) (rowb_take (rowb HX.out.2.2.1 (HC8.out.1 wB (HB.out.1.mono (fun _ f => f.elim)))) m) (by rw [hl]; have := HC8.out.2.2; omega) (by rw [hl]; omega) (by
        have h := ocf_cut c l HX.out.2.2.2.2.2.2.1 HX.out.2.2.2.2.2.2.2.1 (by have := HX.out.2.2.2.2.2.2.2.2; have := HL.out.2.2.1; omega) HX.out.2.2.2.1
        rw [← HX.out.1, ← HC8.out.2.1, ← hm] at h
        exact h)
      rw [hl] at h
      exact h
    have HCUT := Lib.hid hcut
    clear hcut hm hst9 hst13
    go_wp2_with fail
    refine HCUT.out.mono ?_
    rintro e w14 ⟨C14, s14, o14, rfl, m14⟩
    have hst14 := conStore_new w14 C14 s14 o14
    have mC : Mod No wB (w14.alloc (.cells C14 48)) := m14.alloc _
    obtain ⟨wC, hwC⟩ : ∃ wC, wC = w14.alloc (.cells C14 48) := ⟨_, rfl⟩
    rw [← hwC] at mC
    have HCC := Lib.hid (And.intro (HB.out.1.trans mC) (HB.out.2.trans mC))
    have HWC := Lib.hid hwC
    clear mC hwC m14 s14 o14 pm hsl hmx
    go_upto_region 16 with fail
    rw [← HWC.out]
    obtain ⟨_, _, _, _, q16, _⟩ := HRD.out wC (K8.out.trans HCC.out.1)
    -- the change, written and read back
    obtain ⟨Y, hY⟩ : ∃ Y, Y = wchg put name x.t := ⟨_, rfl⟩
    have hlx := HX.out.2.2.2.2.2.1
    have hchg : Calls Try.prog 15 #[.agg CB] wC fun e w' => ∃ v, e = .returned v ∧ OwnB w' wC.heap.size v Y ∧ Mod No wC w' := by
      have kC := K8.out.trans HCC.out.1
      have hk := HL.out.2.2.2.2.2.2.2.2.1 wC (kC.mono (fun _ f => f.elim))
      have hz : w.heap.size ≤ wC.heap.size := Nat.le_trans HM0.out.size kC.size
      rw [HE.out.2.1, hY]
      exact cfgChange_ok put name x ((HL.out.2.2.2.2.2.2.1.keeps hk).imp (fun b hb => by omega)) HL.out.2.2.2.2.2.2.2.1.ok (by omega) (by have := HL.out.2.2.2.1; omega)
    have hYn : Y ≠ [] := by rw [hY]; cases put <;> simp [wchg]
    have hYl : Y.length ≤ 50000 := by
      rw [hY]
      have := wten_len x.t
      cases put
      · simp only [wchg, Bool.false_eq_true, if_false, nameB, List.length_cons, List.length_append, be_length, List.length_take]; omega
      · simp only [wchg, if_true, List.length_cons]; omega
    have HCHG := Lib.hid hchg
    have HY := Lib.hid (And.intro hY (And.intro hYn hYl))
    clear hchg hY hYn hYl hlx hst14
    go_wp2_with fail
    refine HCHG.out.mono ?_
    rintro e w15 ⟨v15, rfl, o15, m15⟩
    obtain ⟨gy, cy, rfl, _, _, hcy, celly⟩ := OwnB.at o15 HY.out.2.1
    obtain ⟨yn, hyn⟩ : ∃ yn, yn = Y.length := ⟨_, rfl⟩
    have hop : Calls Try.prog 18 #[.slice (some ⟨gy, 0, none⟩) yn cy] w15 fun e w' => ∃ x2 : TV, e = .returned (.tuple #[.agg (cChg put (if put then x.t.name else name) x2), .int .i64 0]) ∧ x2.t = (if put then x.t else .zero) ∧ x2.Rows (fun b => w15.heap.size ≤ b) w' ∧ Mod No w15 w' := by
      have h := openChange_ok (w := w15) (A := some ⟨gy, 0, none⟩) (c := cy) Y (rowb HY.out.2.1 celly) hcy (by have := HY.out.2.2; omega)
      rw [← hyn] at h
      have ho := ocg_at put name x.t HL.out.2.2.2.2.2.2.2.1.ok K4.out.2 (by have := HL.out.2.2.2.1; omega)
      rw [← HY.out.1] at ho
      rw [ho] at h
      exact h
    rw [← hyn]
    have HOP := Lib.hid hop
    have HM15 := Lib.hid m15
    clear hop m15 o15 celly hcy hyn q16
    go_wp2_with fail
    refine HOP.out.mono ?_
    rintro e w16 ⟨x16, rfl, e16, r16, m16⟩
    obtain ⟨C16, hC16⟩ : ∃ C16, C16 = cChg put (if put then x.t.name else name) x16 := ⟨_, rfl⟩
    have hst16 := chgStore_new w16 (cChg put (if put then x.t.name else name) x16) (cChg_size _ _ _) (cChg_one _ _ r16)
    rw [← hC16] at hst16 ⊢
    obtain ⟨wD, hwD⟩ : ∃ wD, wD = w16.alloc (.cells C16 38) := ⟨_, rfl⟩
    have mD : Mod No wC wD := by rw [hwD]; exact (HM15.out.trans m16).alloc _
    have bD : wD.heap[w16.heap.size]? = some (.cells C16 38 (0, 0)) := by rw [hwD]; exact at10 w16 _
    have rD : x16.Rows (fun b => w15.heap.size ≤ b) wD := by rw [hwD]; exact r16.keeps (((Mod.refl No w16).alloc _).keeps (fun _ _ _ f => f))
    have hs1516 : w8.heap.size ≤ w15.heap.size := Nat.le_trans HCC.out.1.size HM15.out.size
    have hs16D : w16.heap.size < wD.heap.size := by rw [hwD]; simp
    have h1516 : w15.heap.size ≤ w16.heap.size := m16.size
    have kD : Mod No w0 wD := K8.out.trans (HCC.out.1.trans mD)
    have HDD0 := Lib.hid (And.intro bD (And.intro (HCC.out.2.trans mD) (And.intro hC16 (And.intro rD (And.intro e16 (And.intro hs1516 (And.intro h1516 kD)))))))
    have HWD := Lib.hid hwD
    clear bD mD rD hC16 e16 m16 r16 hwD hs1516 h1516 kD hs16D
    go_upto_region 17 with fail
    rw [← HWD.out]
    obtain ⟨_, dn, _, _, _, dp⟩ := HRD.out wD HDD0.out.2.2.2.2.2.2.2
    have bE0 := HDD0.out.2.2.2.2.2.2.2.obj HE.out.2.2.2.2.1 id
    rw [HE.out.2.1] at bE0
    cases put
    · skip
      -- no tenant: it is emptied
      have hDD := HDD0.out
      simp only [Bool.false_eq_true, if_false] at hDD
      have hse := tenStore_in (W := wD) (o := 2) (CA := zTen) bE0 (by rw [cChg_size]; decide) rfl (ten_one .zero none none none 0 0 0 0 0 0)
      have ein : (((cChg false name x).toList.take 2 ++ zTen.toList ++ (cChg false name x).toList.drop (2 + 33)).toArray : Array Value) = cChg false name TV.zero := cChg_in false name x TV.zero
      rw [ein] at hse
      have bE1 := setRow_heap wD (w.heap.size + 1) _ (cChg false name TV.zero) _ _ bE0
      have mE1 : Mod (fun b => b = w.heap.size + 1) wD (wD.setRow (w.heap.size + 1) (cChg false name TV.zero)) := setRow_mod _
      obtain ⟨wE, hwE⟩ : ∃ wE, wE = wD.setRow (w.heap.size + 1) (cChg false name TV.zero) := ⟨_, rfl⟩
      rw [← hwE] at bE1 mE1 hse
      have hzr := tenZero_run
      obtain ⟨xE, hxE⟩ : ∃ xE : TV, xE = TV.zero := ⟨_, rfl⟩
      obtain ⟨nmE, hnmE⟩ : ∃ nmE, nmE = name := ⟨_, rfl⟩
      obtain ⟨CE, hCE⟩ : ∃ CE, CE = cChg false nmE xE := ⟨_, rfl⟩
      obtain ⟨TE, hTE⟩ : ∃ TE, TE = xE.cells.toArray := ⟨_, rfl⟩
      have HDD := Lib.hid (And.intro hDD.1 (And.intro hDD.2.1 (And.intro (show C16 = cChg false nmE x16 by rw [hnmE]; exact hDD.2.2.1) (And.intro hDD.2.2.2.1 (And.intro hDD.2.2.2.2.1 (And.intro (And.intro hDD.2.2.2.2.2.1 hDD.2.2.2.2.2.2.1) (show w8.heap.size ≤ wD.heap.size from Nat.le_trans hDD.2.2.2.2.2.1 (Nat.le_trans hDD.2.2.2.2.2.2.1 (Nat.le_of_lt (lt_of_block hDD.1)))))))))) 
      have HEE := Lib.hid (And.intro (show wE.heap[w.heap.size + 1]? = some (.cells CE 38 (0, 0)) by rw [hCE, hnmE, hxE]; exact bE1) (And.intro hTE (And.intro hCE (And.intro ((hDD.2.2.2.2.2.2.2.mono (fun _ f => f.elim)).trans mE1) (And.intro mE1 (And.intro (show xE.Rows (fun b => b < w.heap.size) wE by rw [hxE]; exact TV.zero_rows _ _) (And.intro (And.intro (show xE.t.Ok by rw [hxE]; exact zero_ok) (And.intro (show xE.t.Fits by rw [hxE]; exact zero_fits) trivial)) (show xE.t = Ten.zero by rw [hxE]; rfl))))))))
      clear bE1 mE1 hwE hxE hnmE hCE hTE hDD bE0 ein hst16
      go_upto_region 20 with fail

      -- the rest, whatever the change is by now
      have hrdE : ∀ W, Mod No wE W → (tenLoad (.pointer (some ⟨w.heap.size + 1, 2, none⟩))).run Try.prog W = .ok (.agg TE) W ∧ (chgLoad (.pointer (some ⟨w.heap.size + 1, 0, none⟩))).run Try.prog W = .ok (.agg CE) W ∧ (conLoad (.pointer (some ⟨w.heap.size, 0, none⟩))).run Try.prog W = .ok (.agg CA) W ∧ (conLoad (.pointer (some ⟨w9.heap.size, 0, none⟩))).run Try.prog W = .ok (.agg C9) W ∧ (chgLoad (.pointer (some ⟨w16.heap.size, 0, none⟩))).run Try.prog W = .ok (.agg C16) W := fun W hW => by
        have h1 := hW.obj HEE.out.1 id
        refine ⟨?_, chgLoad_run h1 (by rw [HEE.out.2.2.1]; exact cChg_size _ _ _), conLoad_run ((HEE.out.2.2.2.1.trans (hW.mono (fun _ f => f.elim))).obj HE.out.2.2.2.1 (by omega)) (by rw [HE.out.1]; rfl), ?_, ?_⟩
        · rw [HEE.out.2.2.1] at h1
          rw [HEE.out.2.1]; exact chgTen_run h1
        · refine conLoad_run ((HEE.out.2.2.2.2.1.trans (hW.mono (fun _ f => f.elim))).obj (HDD.out.2.1.obj HA.out.2.1 id) ?_) (by rw [HA.out.2.2.2.1]; rfl)
          have := HE.out.2.2.2.2.2; have := K8.out.size; have := HA.out.2.2.2.2.2; omega
        · refine chgLoad_run ((HEE.out.2.2.2.2.1.trans (hW.mono (fun _ f => f.elim))).obj HDD.out.1 ?_) (by rw [HDD.out.2.2.1]; exact cChg_size _ _ _)
          have := HE.out.2.2.2.2.2; have := K8.out.size; have := HDD.out.2.2.2.2.2.1; omega
      have hopen : ∀ W, Mod No wE W → xE.Rows (fun b => b < W.heap.size) W := fun W hW => by
        have := HE.out.2.2.2.2.2; have := K8.out.size; have := HEE.out.2.2.2.2.1.size; have := HDD.out.2.2.2.2.2.1; have := HDD.out.2.2.2.2.2.2; have := hW.size
        exact (HEE.out.2.2.2.2.2.1.keeps (hW.keeps (fun _ _ _ f => f))).imp (fun b hb => by omega)
      have hlx := HX.out.2.2.2.2.2.1
      obtain ⟨Z, hZ⟩ : ∃ Z, Z = wten xE.t := ⟨_, rfl⟩
      have hZl : Z.length ≤ 40000 := by rw [hZ]; exact wten_len _
      have hZn : Z ≠ [] := by rw [hZ]; exact wten_ne _
      have hEok := HEE.out.2.2.2.2.2.2.1
      have hTen : ∀ W, Mod No wE W → Calls Try.prog 14 #[.agg TE] W fun e w' => ∃ v, e = .returned v ∧ OwnB w' W.heap.size v Z ∧ Mod No W w' := fun W hW => by
        rw [hZ, HEE.out.2.1]; exact cfgTenant_ok xE (hopen W hW) hEok.1 (by have := hEok.2.1.name; omega)
      obtain ⟨zn, hzn⟩ : ∃ zn, zn = Z.length := ⟨_, rfl⟩
      have HRE := Lib.hid hrdE
      have HOE := Lib.hid hopen
      have HTen := Lib.hid hTen
      have HZ := Lib.hid (And.intro hZ (And.intro hZl (And.intro hZn (And.intro hzn (And.intro (show Z ++ [bm] ≠ [] by simp) (show (Z ++ [bm]).length = zn + 1 by rw [List.length_append, hzn]; rfl))))))
      have hEok' := Lib.hid hEok
      clear hrdE hopen hlx hZ hZl hZn hTen hzn hEok
      obtain ⟨e1, _⟩ := HRE.out wE (Mod.refl _ _)
      go_wp2_with fail
      refine (HTen.out wE (Mod.refl _ _)).mono ?_
      rintro e w17 ⟨v17, rfl, o17, m17⟩
      obtain ⟨g17, c17, rfl, _, _, hc17, cell17⟩ := OwnB.at o17 HZ.out.2.2.1
      rw [← HZ.out.2.2.2.1]
      rw [← HZ.out.2.2.2.1] at hc17
      have HG17 := Lib.hid (Gr.ext (Gr.refl o17) ((Mod.refl No w17).alloc (.cells #[.int .u8 (bm.toNat : Int)] 5)))
      have HM17 := Lib.hid m17
      have HB17 := Lib.hid (show wE.heap.size ≤ w17.heap.size from m17.size)
      clear m17 o17 cell17 hc17 e1
      have hzn6 : zn ≤ 40000 := by rw [HZ.out.2.2.2.1]; exact HZ.out.2.1
      go_wp2_with (first
        | (at_builtin; refine wpList_gr (by rfl) _ _ (by rfl) HG17.out (by rw [← HZ.out.2.2.2.1]; rfl) [bm] _ _ _ (by rfl) (by rfl) ?_ ?_ ?_ ?_; (exact World.news_of_block (at10 _ _)); (have := HZ.out.2.1; simp; omega); (have := HB17.out; simp; omega); intro v18 w18 g18; obtain ⟨gz, cz, rfl, hgz1, hgz2, hgz3, cellz⟩ := OwnB.at g18.own HZ.out.2.2.2.2.1; have HG18 := Lib.hid (And.intro g18 (And.intro hgz3 cellz)); clear g18 hgz1 hgz2 hgz3 cellz; rw [HZ.out.2.2.2.2.2])
        | fail)
      have m18 : Mod No wE w18 := by
        refine HM17.out.trans' (HG18.out.1.mod) (fun i hi f => ?_)
        have := (HG17.out.own.ge f).1
        omega
      have hOT : Calls Try.prog 17 #[.slice (some ⟨gz, 0, none⟩) (zn + 1) cz] w18 fun e w' => ∃ x : TV, e = .returned (.tuple #[.agg x.cells.toArray, .int .i64 (zn : Int), .int .i64 0]) ∧ x.t = xE.t ∧ x.Rows (fun b => w18.heap.size ≤ b) w' ∧ Mod No w18 w' := by
        have h := openTenant_ok (w := w18) (A := some ⟨gz, 0, none⟩) (c := cz) (Z ++ [bm]) (rowb HZ.out.2.2.2.2.1 HG18.out.2.2) HG18.out.2.1 (by rw [HZ.out.2.2.2.2.2]; omega)
        rw [HZ.out.2.2.2.2.2] at h
        have ho := otn_more xE.t hEok'.out.1 hEok'.out.2.1 bm
        rw [← HZ.out.1, ← HZ.out.2.2.2.1] at ho
        rw [ho] at h
        exact h
      have HOT := Lib.hid hOT
      have HM18 := Lib.hid m18
      clear hOT m18
      go_wp2_with fail
      refine HOT.out.mono ?_
      rintro e w19 ⟨x20, rfl, e20, r20, m19⟩
      obtain ⟨T20, hT20⟩ : ∃ T20, T20 = x20.cells.toArray := ⟨_, rfl⟩
      have hst20 := tenStore_new w19 x20.cells.toArray rfl (TV.one r20)
      rw [← hT20] at hst20 ⊢
      obtain ⟨wF, hwF⟩ : ∃ wF, wF = w19.alloc (.cells T20 30) := ⟨_, rfl⟩
      have mF : Mod No wE wF := by rw [hwF]; exact (HM18.out.trans m19).alloc _
      have bF : wF.heap[w19.heap.size]? = some (.cells T20 30 (0, 0)) := by rw [hwF]; exact at10 w19 _
      have rF : x20.Rows (fun b => w18.heap.size ≤ b) wF := by rw [hwF]; exact r20.keeps (((Mod.refl No w19).alloc _).keeps (fun _ _ _ f => f))
      have HFF := Lib.hid (And.intro mF (And.intro bF (And.intro rF (And.intro hT20 e20))))
      have HWF := Lib.hid hwF
      clear mF bF rF hT20 m19 r20 hwF e20
      go_upto_region 21 with fail
      rw [← HWF.out]
      -- the settings
      obtain ⟨_, _, q1, q2, _⟩ := HRE.out wF HFF.out.1
      have hcs : Calls Try.prog 29 #[.agg CA, .agg C9] wF fun e w' => e = .returned (.bool true) ∧ Mod No wF w' := by
        have kF : Mod (fun b => b = w.heap.size + 1) w0 wF := HEE.out.2.2.2.1.trans (HFF.out.1.mono (fun _ f => f.elim))
        have hk := HL.out.2.2.2.2.2.2.2.2.1 wF kF
        have hA : TVl (fun b => b < w.heap.size) wF A l := ⟨HL.out.2.2.2.2.1.keeps hk, fun y hy => (HL.out.2.2.2.2.2.1 y hy).1.keeps hk⟩
        have hB : TVl (fun b => w8.heap.size ≤ b) wF B9 l9 := by
          refine (HA.out.2.2.1.keeps (HDD.out.2.1.keeps (fun _ _ _ f => f))).keeps ((HEE.out.2.2.2.2.1.trans (HFF.out.1.mono (fun _ f => f.elim))).keeps (fun b _ hb f => ?_))
          have := HE.out.2.2.2.2.2; have := K8.out.size; omega
        rw [HE.out.1, HA.out.2.2.2.1]
        refine config_same c hA hB rfl HA.out.2.2.2.2.1.symm (fun y hy => ?_) (by have := HL.out.2.2.1; omega)
        have hm : y.t ∈ l.map (·.t) := by rw [← HA.out.2.2.2.2.1]; exact List.mem_map_of_mem hy
        obtain ⟨y', hy', ey⟩ := List.mem_map.1 hm
        have := light_of (HX.out.2.2.2.2.1 y' hy')
        rw [← ey]
        exact ⟨this.2.1, this.2.2.1, this.2.2.2⟩
      have HCS := Lib.hid hcs
      clear hcs
      go_wp2_with fail
      refine HCS.out.mono ?_
      rintro e w21 ⟨rfl, m21⟩
      have mE21 : Mod No wE w21 := HFF.out.1.trans m21
      have HF21 := Lib.hid m21
      obtain ⟨_, q3, _, _, q4⟩ := HRE.out w21 mE21
      have hsc1 := chgSlice_run C16 (by rw [HDD.out.2.2.1]; exact cChg_size _ _ _)
      have hsc2 := chgSlice_run CE (by rw [HEE.out.2.2.1]; exact cChg_size _ _ _)
      have q3' := (HRE.out (w21.alloc (.cells C16 38)) (mE21.alloc _)).2.1
      have mE22 : Mod No wE ((w21.alloc (.cells C16 38)).alloc (.cells CE 38)) := (mE21.alloc _).alloc _
      have hch : Calls Try.prog 30 #[.slice (some ⟨w21.heap.size, 0, none⟩) 1 1, .slice (some ⟨w21.heap.size + 1, 0, none⟩) 1 1] ((w21.alloc (.cells C16 38)).alloc (.cells CE 38)) fun e w' => e = .returned (.bool true) ∧ Mod No ((w21.alloc (.cells C16 38)).alloc (.cells CE 38)) w' := by
        have hlx := hEok'.out.2.1
        refine changes_same (S := fun b => w15.heap.size ≤ b) false nmE (x := x16) (y := xE) (by rw [← HDD.out.2.2.1]; exact at20 _ _ _) (by rw [← HEE.out.2.2.1]; exact at21 _ _ _) ?_ (HOE.out _ mE22) (HDD.out.2.2.2.2.1.trans HEE.out.2.2.2.2.2.2.2.symm) (by have := hlx.pool; have := hlx.statics; have := hlx.twices; omega)
        refine HDD.out.2.2.2.1.keeps (((HEE.out.2.2.2.2.1.trans (mE22.mono (fun _ f => f.elim)))).keeps (fun b _ hb f => ?_))
        have := HE.out.2.2.2.2.2; have := K8.out.size; have := HDD.out.2.2.2.2.2.1; omega
      have HCH := Lib.hid hch
      have HM22 := Lib.hid mE22
      clear hch mE22 mE21 m21 q1 q2
      go_wp2_with fail
      refine HCH.out.mono ?_
      rintro e w23 ⟨rfl, m23⟩
      have mE23 : Mod No wE w23 := HM22.out.trans m23
      have HF23 := Lib.hid (show Mod No wF w23 from (((HF21.out.alloc _).alloc _).trans m23))
      have q5 := (HRE.out w23 mE23).1
      have hT23 := HTen.out w23 mE23
      have HT23 := Lib.hid hT23
      have HM23 := Lib.hid mE23
      clear hT23 mE23 m23 q3 q4 q3'
      go_wp2_with fail
      refine HT23.out.mono ?_
      rintro e w24 ⟨v24, rfl, o24, m24⟩
      obtain ⟨g24, c24, rfl, _⟩ := OwnB.open o24
      rw [← HZ.out.2.2.2.1]
      have mE24 : Mod No wE w24 := HM23.out.trans m24
      have HF24 := Lib.hid (HF23.out.trans m24)
      have q6 := (HRE.out w24 mE24).1
      have bF24 : w24.heap[w19.heap.size]? = some (.cells T20 30 (0, 0)) := (HF24.out).obj HFF.out.2.1 id
      have q7 : (tenLoad (.pointer (some ⟨w19.heap.size, 0, none⟩))).run Try.prog w24 = .ok (.agg T20) w24 := tenLoad_run bF24 (by rw [HFF.out.2.2.2.1]; rfl)
      have hTS : Calls Try.prog 12 #[.agg T20, .agg TE] w24 fun e w' => e = .returned (.bool true) ∧ Mod No w24 w' := by
        have hlx := hEok'.out.2.1
        rw [HFF.out.2.2.2.1, HEE.out.2.1]
        exact tenant_same (HFF.out.2.2.1.keeps ((HF24.out).keeps (fun _ _ _ f => f))) (HOE.out _ mE24) HFF.out.2.2.2.2 (by have := hlx.pool; omega) (by have := hlx.statics; omega) (by have := hlx.twices; omega)
      have HTS := Lib.hid hTS
      have HM24 := Lib.hid mE24
      clear hTS mE24 m24 o24 bF24
      have pz : ((zn : Int) == zn) = true := by simp
      go_wp2_with fail
      refine HTS.out.mono ?_
      rintro e w25 ⟨rfl, m25⟩
      have HM25 := Lib.hid (HM24.out.trans m25)
      clear m25
      go_wp2
      go_ret
      refine ⟨rfl, ?_⟩
      have hall : Mod (fun b => b = w.heap.size + 1) w0 w25 := HEE.out.2.2.2.1.trans (HM25.out.mono (fun _ f => f.elim))
      exact HM0.out.trans' hall (fun i hi f => by omega)
    · skip
      -- the name becomes the tenant's
      have hDD := HDD0.out
      simp only [if_true] at hDD
      have dnm : wD.cell? ⟨w.heap.size + 1, 2, none⟩ = some (.string (str x.t.name)) := (blk_cell bE0 2).trans (cChg_at2 _ _ _)
      have fE := blk_free bE0 1
      have bE1 : (wD.setCell ⟨w.heap.size + 1, 1, none⟩ (.string (str x.t.name))).heap[w.heap.size + 1]? = some (.cells (cChg true x.t.name x) 38 (0, 0)) := by rw [heap_setCell_row bE0, cChg_set1]
      have mE1 : Mod (fun b => b = w.heap.size + 1) wD (wD.setCell ⟨w.heap.size + 1, 1, none⟩ (.string (str x.t.name))) := Mod.setCell (p := ⟨w.heap.size + 1, 1, none⟩) (Mod.refl (fun b => b = w.heap.size + 1) wD) (.inr rfl) _
      obtain ⟨wE, hwE⟩ : ∃ wE, wE = wD.setCell ⟨w.heap.size + 1, 1, none⟩ (.string (str x.t.name)) := ⟨_, rfl⟩
      rw [← hwE] at bE1 mE1
      have hkE := HL.out.2.2.2.2.2.2.2.2.1 wE ((hDD.2.2.2.2.2.2.2.mono (fun _ f => f.elim)).trans mE1)
      obtain ⟨xE, hxE⟩ : ∃ xE : TV, xE = x := ⟨_, rfl⟩
      obtain ⟨nmE, hnmE⟩ : ∃ nmE, nmE = x.t.name := ⟨_, rfl⟩
      obtain ⟨CE, hCE⟩ : ∃ CE, CE = cChg true nmE xE := ⟨_, rfl⟩
      obtain ⟨TE, hTE⟩ : ∃ TE, TE = xE.cells.toArray := ⟨_, rfl⟩
      have HDD := Lib.hid (And.intro hDD.1 (And.intro hDD.2.1 (And.intro (show C16 = cChg true nmE x16 by rw [hnmE]; exact hDD.2.2.1) (And.intro hDD.2.2.2.1 (And.intro hDD.2.2.2.2.1 (And.intro (And.intro hDD.2.2.2.2.2.1 hDD.2.2.2.2.2.2.1) (show w8.heap.size ≤ wD.heap.size from Nat.le_trans hDD.2.2.2.2.2.1 (Nat.le_trans hDD.2.2.2.2.2.2.1 (Nat.le_of_lt (lt_of_block hDD.1)))))))))) 
      have HEE := Lib.hid (And.intro (show wE.heap[w.heap.size + 1]? = some (.cells CE 38 (0, 0)) by rw [hCE, hnmE, hxE]; exact bE1) (And.intro hTE (And.intro hCE (And.intro ((hDD.2.2.2.2.2.2.2.mono (fun _ f => f.elim)).trans mE1) (And.intro mE1 (And.intro (show xE.Rows (fun b => b < w.heap.size) wE by rw [hxE]; exact HL.out.2.2.2.2.2.2.1.keeps hkE) (And.intro (And.intro (show xE.t.Ok by rw [hxE]; exact HL.out.2.2.2.2.2.2.2.1.ok) (And.intro (show xE.t.Fits by rw [hxE]; exact K4.out.2) trivial)) (show xE.t = x.t by rw [hxE]))))))))
      have HWE := Lib.hid hwE
      clear bE1 mE1 hwE hxE hnmE hCE hTE hDD bE0 hkE hst16
      go_upto_region 20 with fail
      rw [← HWE.out]

      -- the rest, whatever the change is by now
      have hrdE : ∀ W, Mod No wE W → (tenLoad (.pointer (some ⟨w.heap.size + 1, 2, none⟩))).run Try.prog W = .ok (.agg TE) W ∧ (chgLoad (.pointer (some ⟨w.heap.size + 1, 0, none⟩))).run Try.prog W = .ok (.agg CE) W ∧ (conLoad (.pointer (some ⟨w.heap.size, 0, none⟩))).run Try.prog W = .ok (.agg CA) W ∧ (conLoad (.pointer (some ⟨w9.heap.size, 0, none⟩))).run Try.prog W = .ok (.agg C9) W ∧ (chgLoad (.pointer (some ⟨w16.heap.size, 0, none⟩))).run Try.prog W = .ok (.agg C16) W := fun W hW => by
        have h1 := hW.obj HEE.out.1 id
        refine ⟨?_, chgLoad_run h1 (by rw [HEE.out.2.2.1]; exact cChg_size _ _ _), conLoad_run ((HEE.out.2.2.2.1.trans (hW.mono (fun _ f => f.elim))).obj HE.out.2.2.2.1 (by omega)) (by rw [HE.out.1]; rfl), ?_, ?_⟩
        · rw [HEE.out.2.2.1] at h1
          rw [HEE.out.2.1]; exact chgTen_run h1
        · refine conLoad_run ((HEE.out.2.2.2.2.1.trans (hW.mono (fun _ f => f.elim))).obj (HDD.out.2.1.obj HA.out.2.1 id) ?_) (by rw [HA.out.2.2.2.1]; rfl)
          have := HE.out.2.2.2.2.2; have := K8.out.size; have := HA.out.2.2.2.2.2; omega
        · refine chgLoad_run ((HEE.out.2.2.2.2.1.trans (hW.mono (fun _ f => f.elim))).obj HDD.out.1 ?_) (by rw [HDD.out.2.2.1]; exact cChg_size _ _ _)
          have := HE.out.2.2.2.2.2; have := K8.out.size; have := HDD.out.2.2.2.2.2.1; omega
      have hopen : ∀ W, Mod No wE W → xE.Rows (fun b => b < W.heap.size) W := fun W hW => by
        have := HE.out.2.2.2.2.2; have := K8.out.size; have := HEE.out.2.2.2.2.1.size; have := HDD.out.2.2.2.2.2.1; have := HDD.out.2.2.2.2.2.2; have := hW.size
        exact (HEE.out.2.2.2.2.2.1.keeps (hW.keeps (fun _ _ _ f => f))).imp (fun b hb => by omega)
      have hlx := HX.out.2.2.2.2.2.1
      obtain ⟨Z, hZ⟩ : ∃ Z, Z = wten xE.t := ⟨_, rfl⟩
      have hZl : Z.length ≤ 40000 := by rw [hZ]; exact wten_len _
      have hZn : Z ≠ [] := by rw [hZ]; exact wten_ne _
      have hEok := HEE.out.2.2.2.2.2.2.1
      have hTen : ∀ W, Mod No wE W → Calls Try.prog 14 #[.agg TE] W fun e w' => ∃ v, e = .returned v ∧ OwnB w' W.heap.size v Z ∧ Mod No W w' := fun W hW => by
        rw [hZ, HEE.out.2.1]; exact cfgTenant_ok xE (hopen W hW) hEok.1 (by have := hEok.2.1.name; omega)
      obtain ⟨zn, hzn⟩ : ∃ zn, zn = Z.length := ⟨_, rfl⟩
      have HRE := Lib.hid hrdE
      have HOE := Lib.hid hopen
      have HTen := Lib.hid hTen
      have HZ := Lib.hid (And.intro hZ (And.intro hZl (And.intro hZn (And.intro hzn (And.intro (show Z ++ [bm] ≠ [] by simp) (show (Z ++ [bm]).length = zn + 1 by rw [List.length_append, hzn]; rfl))))))
      have hEok' := Lib.hid hEok
      clear hrdE hopen hlx hZ hZl hZn hTen hzn hEok
      obtain ⟨e1, _⟩ := HRE.out wE (Mod.refl _ _)
      go_wp2_with fail
      refine (HTen.out wE (Mod.refl _ _)).mono ?_
      rintro e w17 ⟨v17, rfl, o17, m17⟩
      obtain ⟨g17, c17, rfl, _, _, hc17, cell17⟩ := OwnB.at o17 HZ.out.2.2.1
      rw [← HZ.out.2.2.2.1]
      rw [← HZ.out.2.2.2.1] at hc17
      have HG17 := Lib.hid (Gr.ext (Gr.refl o17) ((Mod.refl No w17).alloc (.cells #[.int .u8 (bm.toNat : Int)] 5)))
      have HM17 := Lib.hid m17
      have HB17 := Lib.hid (show wE.heap.size ≤ w17.heap.size from m17.size)
      clear m17 o17 cell17 hc17 e1
      have hzn6 : zn ≤ 40000 := by rw [HZ.out.2.2.2.1]; exact HZ.out.2.1
      go_wp2_with (first
        | (at_builtin; refine wpList_gr (by rfl) _ _ (by rfl) HG17.out (by rw [← HZ.out.2.2.2.1]; rfl) [bm] _ _ _ (by rfl) (by rfl) ?_ ?_ ?_ ?_; (exact World.news_of_block (at10 _ _)); (have := HZ.out.2.1; simp; omega); (have := HB17.out; simp; omega); intro v18 w18 g18; obtain ⟨gz, cz, rfl, hgz1, hgz2, hgz3, cellz⟩ := OwnB.at g18.own HZ.out.2.2.2.2.1; have HG18 := Lib.hid (And.intro g18 (And.intro hgz3 cellz)); clear g18 hgz1 hgz2 hgz3 cellz; rw [HZ.out.2.2.2.2.2])
        | fail)
      have m18 : Mod No wE w18 := by
        refine HM17.out.trans' (HG18.out.1.mod) (fun i hi f => ?_)
        have := (HG17.out.own.ge f).1
        omega
      have hOT : Calls Try.prog 17 #[.slice (some ⟨gz, 0, none⟩) (zn + 1) cz] w18 fun e w' => ∃ x : TV, e = .returned (.tuple #[.agg x.cells.toArray, .int .i64 (zn : Int), .int .i64 0]) ∧ x.t = xE.t ∧ x.Rows (fun b => w18.heap.size ≤ b) w' ∧ Mod No w18 w' := by
        have h := openTenant_ok (w := w18) (A := some ⟨gz, 0, none⟩) (c := cz) (Z ++ [bm]) (rowb HZ.out.2.2.2.2.1 HG18.out.2.2) HG18.out.2.1 (by rw [HZ.out.2.2.2.2.2]; omega)
        rw [HZ.out.2.2.2.2.2] at h
        have ho := otn_more xE.t hEok'.out.1 hEok'.out.2.1 bm
        rw [← HZ.out.1, ← HZ.out.2.2.2.1] at ho
        rw [ho] at h
        exact h
      have HOT := Lib.hid hOT
      have HM18 := Lib.hid m18
      clear hOT m18
      go_wp2_with fail
      refine HOT.out.mono ?_
      rintro e w19 ⟨x20, rfl, e20, r20, m19⟩
      obtain ⟨T20, hT20⟩ : ∃ T20, T20 = x20.cells.toArray := ⟨_, rfl⟩
      have hst20 := tenStore_new w19 x20.cells.toArray rfl (TV.one r20)
      rw [← hT20] at hst20 ⊢
      obtain ⟨wF, hwF⟩ : ∃ wF, wF = w19.alloc (.cells T20 30) := ⟨_, rfl⟩
      have mF : Mod No wE wF := by rw [hwF]; exact (HM18.out.trans m19).alloc _
      have bF : wF.heap[w19.heap.size]? = some (.cells T20 30 (0, 0)) := by rw [hwF]; exact at10 w19 _
      have rF : x20.Rows (fun b => w18.heap.size ≤ b) wF := by rw [hwF]; exact r20.keeps (((Mod.refl No w19).alloc _).keeps (fun _ _ _ f => f))
      have HFF := Lib.hid (And.intro mF (And.intro bF (And.intro rF (And.intro hT20 e20))))
      have HWF := Lib.hid hwF
      clear mF bF rF hT20 m19 r20 hwF e20
      go_upto_region 21 with fail
      rw [← HWF.out]
      -- the settings
      obtain ⟨_, _, q1, q2, _⟩ := HRE.out wF HFF.out.1
      have hcs : Calls Try.prog 29 #[.agg CA, .agg C9] wF fun e w' => e = .returned (.bool true) ∧ Mod No wF w' := by
        have kF : Mod (fun b => b = w.heap.size + 1) w0 wF := HEE.out.2.2.2.1.trans (HFF.out.1.mono (fun _ f => f.elim))
        have hk := HL.out.2.2.2.2.2.2.2.2.1 wF kF
        have hA : TVl (fun b => b < w.heap.size) wF A l := ⟨HL.out.2.2.2.2.1.keeps hk, fun y hy => (HL.out.2.2.2.2.2.1 y hy).1.keeps hk⟩
        have hB : TVl (fun b => w8.heap.size ≤ b) wF B9 l9 := by
          refine (HA.out.2.2.1.keeps (HDD.out.2.1.keeps (fun _ _ _ f => f))).keeps ((HEE.out.2.2.2.2.1.trans (HFF.out.1.mono (fun _ f => f.elim))).keeps (fun b _ hb f => ?_))
          have := HE.out.2.2.2.2.2; have := K8.out.size; omega
        rw [HE.out.1, HA.out.2.2.2.1]
        refine config_same c hA hB rfl HA.out.2.2.2.2.1.symm (fun y hy => ?_) (by have := HL.out.2.2.1; omega)
        have hm : y.t ∈ l.map (·.t) := by rw [← HA.out.2.2.2.2.1]; exact List.mem_map_of_mem hy
        obtain ⟨y', hy', ey⟩ := List.mem_map.1 hm
        have := light_of (HX.out.2.2.2.2.1 y' hy')
        rw [← ey]
        exact ⟨this.2.1, this.2.2.1, this.2.2.2⟩
      have HCS := Lib.hid hcs
      clear hcs
      go_wp2_with fail
      refine HCS.out.mono ?_
      rintro e w21 ⟨rfl, m21⟩
      have mE21 : Mod No wE w21 := HFF.out.1.trans m21
      have HF21 := Lib.hid m21
      obtain ⟨_, q3, _, _, q4⟩ := HRE.out w21 mE21
      have hsc1 := chgSlice_run C16 (by rw [HDD.out.2.2.1]; exact cChg_size _ _ _)
      have hsc2 := chgSlice_run CE (by rw [HEE.out.2.2.1]; exact cChg_size _ _ _)
      have q3' := (HRE.out (w21.alloc (.cells C16 38)) (mE21.alloc _)).2.1
      have mE22 : Mod No wE ((w21.alloc (.cells C16 38)).alloc (.cells CE 38)) := (mE21.alloc _).alloc _
      have hch : Calls Try.prog 30 #[.slice (some ⟨w21.heap.size, 0, none⟩) 1 1, .slice (some ⟨w21.heap.size + 1, 0, none⟩) 1 1] ((w21.alloc (.cells C16 38)).alloc (.cells CE 38)) fun e w' => e = .returned (.bool true) ∧ Mod No ((w21.alloc (.cells C16 38)).alloc (.cells CE 38)) w' := by
        have hlx := hEok'.out.2.1
        refine changes_same (S := fun b => w15.heap.size ≤ b) true nmE (x := x16) (y := xE) (by rw [← HDD.out.2.2.1]; exact at20 _ _ _) (by rw [← HEE.out.2.2.1]; exact at21 _ _ _) ?_ (HOE.out _ mE22) (HDD.out.2.2.2.2.1.trans HEE.out.2.2.2.2.2.2.2.symm) (by have := hlx.pool; have := hlx.statics; have := hlx.twices; omega)
        refine HDD.out.2.2.2.1.keeps (((HEE.out.2.2.2.2.1.trans (mE22.mono (fun _ f => f.elim)))).keeps (fun b _ hb f => ?_))
        have := HE.out.2.2.2.2.2; have := K8.out.size; have := HDD.out.2.2.2.2.2.1; omega
      have HCH := Lib.hid hch
      have HM22 := Lib.hid mE22
      clear hch mE22 mE21 m21 q1 q2
      go_wp2_with fail
      refine HCH.out.mono ?_
      rintro e w23 ⟨rfl, m23⟩
      have mE23 : Mod No wE w23 := HM22.out.trans m23
      have HF23 := Lib.hid (show Mod No wF w23 from (((HF21.out.alloc _).alloc _).trans m23))
      have q5 := (HRE.out w23 mE23).1
      have hT23 := HTen.out w23 mE23
      have HT23 := Lib.hid hT23
      have HM23 := Lib.hid mE23
      clear hT23 mE23 m23 q3 q4 q3'
      go_wp2_with fail
      refine HT23.out.mono ?_
      rintro e w24 ⟨v24, rfl, o24, m24⟩
      obtain ⟨g24, c24, rfl, _⟩ := OwnB.open o24
      rw [← HZ.out.2.2.2.1]
      have mE24 : Mod No wE w24 := HM23.out.trans m24
      have HF24 := Lib.hid (HF23.out.trans m24)
      have q6 := (HRE.out w24 mE24).1
      have bF24 : w24.heap[w19.heap.size]? = some (.cells T20 30 (0, 0)) := (HF24.out).obj HFF.out.2.1 id
      have q7 : (tenLoad (.pointer (some ⟨w19.heap.size, 0, none⟩))).run Try.prog w24 = .ok (.agg T20) w24 := tenLoad_run bF24 (by rw [HFF.out.2.2.2.1]; rfl)
      have hTS : Calls Try.prog 12 #[.agg T20, .agg TE] w24 fun e w' => e = .returned (.bool true) ∧ Mod No w24 w' := by
        have hlx := hEok'.out.2.1
        rw [HFF.out.2.2.2.1, HEE.out.2.1]
        exact tenant_same (HFF.out.2.2.1.keeps ((HF24.out).keeps (fun _ _ _ f => f))) (HOE.out _ mE24) HFF.out.2.2.2.2 (by have := hlx.pool; omega) (by have := hlx.statics; omega) (by have := hlx.twices; omega)
      have HTS := Lib.hid hTS
      have HM24 := Lib.hid mE24
      clear hTS mE24 m24 o24 bF24
      have pz : ((zn : Int) == zn) = true := by simp
      go_wp2_with fail
      refine HTS.out.mono ?_
      rintro e w25 ⟨rfl, m25⟩
      have HM25 := Lib.hid (HM24.out.trans m25)
      clear m25
      go_wp2
      go_ret
      refine ⟨rfl, ?_⟩
      have hall : Mod (fun b => b = w.heap.size + 1) w0 w25 := HEE.out.2.2.2.1.trans (HM25.out.mono (fun _ f => f.elim))
      exact HM0.out.trans' hall (fun i hi f => by omega)

end Go.Proofs.Ytcnemhhbihhcfaa
