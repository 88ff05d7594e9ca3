/-
  MgI, MgL, MgM in one text (pack.py).
-/
import Derived.Test.YtpkieilmlnlpkaaQ6
namespace Go.Proofs.Ytpkieilmlnlpkaa

section
attribute [local go_sem] stPair gtPair gtK8 gtM6 run_store_func run_store_nilFunc
attribute [local go_sem high] neqPair eqK8 eqM6
attribute [local go_sem ↓] load_fold store_fold alloc_fold slice_op_fold con_load_fold chg_load_fold ten_zero_fold con_alloc_fold con_store_fold con_zero_fold chg_alloc_fold chg_store_fold chg_zero_fold chg_put_fold macLoad_fold macStore_fold keyLoad_fold keyStore_fold chg_make_fold chg_slice_fold askLoad_fold askStore_fold askAlloc_fold askBox_fold askZero_fold reqLoad_fold reqStore_fold reqAlloc_fold reqBox_fold reqZero_fold askPut_fold reqPut_fold
open Go.RowKit
set_option linter.unusedVariables false
theorem row_blk {S : Nat → Prop} {W : World} {b : Nat} {cs : Array Value} {t : TypeId} {fr : Nat × Nat} (h : W.heap[b]? = some (.cells cs t fr)) (hS : S b) : RowAt S W (some ⟨b, 0, none⟩) cs.toList := by
  refine .inr ⟨b, 0, rfl, hS, fun j u hj => ?_⟩
  rw [Nat.zero_add]
  have : cs[j]? = some u := by simpa using hj
  simp [World.cell?, h, this]
/-- What a request's bytes are, and whether they may be. -/
def BytesQ (ok : Bool) (L : List UInt8) (w : World) (e : Ending) (w' : World) : Prop :=
  Mod No w w' ∧ (ok = true → ∃ v, e = .returned (.tuple #[v, .int .i64 0]) ∧ OwnB w' w.heap.size v L) ∧ (ok = false → e = .returned (.tuple #[.slice none 0 0, .int .i64 160]))
theorem BytesQ.bad {L : List UInt8} {w w' : World} (h : Mod No w w') : BytesQ false L w (.returned (.tuple #[.slice none 0 0, .int .i64 160])) w' := ⟨h, (fun f => by cases f), fun _ => rfl⟩
set_option maxRecDepth 100000 in
set_option maxHeartbeats 1000000 in
theorem bytes_some {w : World} (a : AskD) (ha : a.ok) {r wr : Nat} (hk : kindOf a.op = some (r, wr)) (ok : Bool) (L : List UInt8) (hL : L.length ≤ 90000000)
    (HW : ∀ W, Mod No w W → Calls Try.prog wr #[.agg a.cells.toArray] W (WrQ ok L W)) :
    Calls Try.prog 15 #[.agg a.cells.toArray] w (BytesQ ok (a.key.l ++ UInt8.ofNat (a.op % 256).toNat :: L) w) := by
  have hs := AskD.size ha
  obtain ⟨CA, hCA⟩ : ∃ CA, CA = a.cells.toArray := ⟨_, rfl⟩
  rw [← hCA] at hs HW
  rw [← hCA]
  have hb := askBox_new CA hs
  have hat : ∀ W, Mod No (w.alloc (.cells CA 40)) W → askAt W w.heap.size a := fun W hW => by rw [askAt, ← hCA]; exact hW.obj (at10 w _) id
  have c8 : (w.alloc (.cells CA 40)).cell? ⟨w.heap.size, 8, none⟩ = some (.int .i64 a.op) := (askAt_cell (hat _ (Mod.refl _ _)) 8).trans (AskD.at8 a)
  have hx : bcells [UInt8.ofNat (a.op % 256).toNat] = [.int .u8 (IntKind.u8.wrap a.op)] := by
    simp [bcells, IntKind.wrap, IntKind.bits, IntKind.signed]
    omega
  obtain ⟨op, hop⟩ : ∃ op, op = a.op := ⟨_, rfl⟩
  obtain ⟨key, hkey⟩ : ∃ key, key = a.key := ⟨_, rfl⟩
  rw [← hop] at c8 hk hx
  rw [← hop, ← hkey]
  have hkv : kindV op = .tuple #[.agg #[.func (.func r) #[] #[], .func (.func wr) #[] #[]], .bool true] := by rw [kindV, hk]; rfl
  have HK := Lib.hid (fun W => kinds_ok W op)
  rw [hkv] at HK
  have hen := (kind_enters hk).2
  have HWW := Lib.hid HW
  have H0 := Lib.hid (And.intro hat (And.intro hCA (And.intro hs (And.intro hop (And.intro hkey hx)))))
  clear hCA hat hop ha hk hkv HW hkey hs hx
  go_enter Try.func15, Try.ntmps15
  go_upto_region 4 with (first | (go_at_call 16; refine (HK.out _).mono ?_; rintro e w1 ⟨rfl, hm1⟩; have H1 := Lib.hid hm1; clear hm1) | fail)
  refine grab_world fun V hV => ?_
  have hmV : Mod No (w.alloc (.cells CA 40)) V := by rw [hV]; exact H1.out.alloc _
  have hld := askLoad_run (show V.heap[w.heap.size]? = some (.cells CA 40 (0, 0)) by have := H0.out.1 V hmV; rw [askAt, ← H0.out.2.1] at this; exact this) H0.out.2.2.1
  have ck : V.cell? ⟨w1.heap.size, 1, none⟩ = some (.func (.func wr) #[] #[]) := by rw [hV]; exact (blk_cell (at10 w1 _) 1).trans rfl
  have HV := Lib.hid (And.intro (((Mod.refl No w).alloc _).trans hmV) hmV)
  clear hV hmV
  cases ok with
  | false =>
    go_wp2_with (refine (HWW.out V HV.out.1).mono ?_; intro e w2 hq; obtain ⟨v, hq1, hq2, hq3⟩ := hq; subst hq1; have H2 := Lib.hid hq3; clear hq2 hq3)
    go_ret2
    exact ⟨HV.out.1.trans H2.out, (fun f => by cases f), (fun _ => rfl)⟩
  | true =>
    go_upto_region 7 with (refine (HWW.out V HV.out.1).mono ?_; intro e w2 hq; obtain ⟨v, hq1, hq2, hq3⟩ := hq; subst hq1; have H2 := Lib.hid (And.intro hq2 hq3); clear hq2 hq3)
    obtain ⟨A, c, rfl, hlc, hrL⟩ := OwnB.open H2.out.1
    have hmW : Mod No (w.alloc (.cells CA 40)) w2 := HV.out.2.trans H2.out.2
    have c8w := hmW.cell c8 id
    have HC := Lib.hid (show Calls Try.prog 24 #[.slice (some ⟨w2.heap.size + 1, 0, none⟩) 3 3] ((w2.alloc (.cells #[.int .u8 (IntKind.u8.wrap op)] 5)).alloc (.cells #[.slice (some ⟨w.heap.size, 0, none⟩) 8 8, .slice (some ⟨w2.heap.size, 0, none⟩) 1 1, .slice A L.length c] 22)).drew fun e w' => ∃ v, e = .returned v ∧ OwnB w' w.heap.size v (key.l ++ UInt8.ofNat (op % 256).toNat :: L) ∧ Mod No w2 w' ∧ w'.cell? ⟨w.heap.size, 8, none⟩ = some (.int .i64 op) from by
      obtain ⟨W3, hW3⟩ : ∃ W3, W3 = ((w2.alloc (.cells #[.int .u8 (IntKind.u8.wrap op)] 5)).alloc (.cells #[.slice (some ⟨w.heap.size, 0, none⟩) 8 8, .slice (some ⟨w2.heap.size, 0, none⟩) 1 1, .slice A L.length c] 22)).drew := ⟨_, rfl⟩
      rw [← hW3]
      have hm3 : Mod No w2 W3 := by rw [hW3]; exact (((Mod.refl _ _).alloc _).alloc _).drew
      have hb1 : W3.heap[w2.heap.size]? = some (.cells #[.int .u8 (IntKind.u8.wrap op)] 5 (0, 0)) := by rw [hW3]; exact at20 w2 _ _
      have hb2 : W3.heap[w2.heap.size + 1]? = some (.cells #[.slice (some ⟨w.heap.size, 0, none⟩) 8 8, .slice (some ⟨w2.heap.size, 0, none⟩) 1 1, .slice A L.length c] 22 (0, 0)) := by rw [hW3]; exact at21 w2 _ _
      have hs3 : W3.heap.size = w2.heap.size + 2 := by rw [hW3]; simp
      obtain ⟨hat, hCA, hs, hop, hkey, hx⟩ := H0.out
      have hat3 := hat W3 (hmW.trans hm3)
      have hlw : w.heap.size < w2.heap.size := by have := lt_of_block (hat w2 hmW); exact this
      obtain ⟨l, hl⟩ : ∃ l : List (Option Addr × Nat × List Value), l = [(some ⟨w.heap.size, 0, none⟩, 8, bcells key.l), (some ⟨w2.heap.size, 0, none⟩, 1, bcells [UInt8.ofNat (op % 256).toNat]), (A, c, bcells L)] := ⟨_, rfl⟩
      have hall : partsAll l = bcells (key.l ++ UInt8.ofNat (op % 256).toNat :: L) := by rw [hl]; simp [partsAll, bcells]
      have hlen : (partsAll l).length = (key.l ++ UInt8.ofNat (op % 256).toNat :: L).length := by rw [hall, bcells_length]
      have hk8 : key.l.length = 8 := rfl
      have := concat_okU8 (S := fun b => b < W3.heap.size) (w := W3) l (Q := some ⟨w2.heap.size + 1, 0, none⟩) (q := 3) (by
          have := row_blk (S := fun b => b < W3.heap.size) hb2 (by omega)
          have e : l.map partVal = (#[.slice (some ⟨w.heap.size, 0, none⟩) 8 8, .slice (some ⟨w2.heap.size, 0, none⟩) 1 1, .slice A L.length c] : Array Value).toList := by
            rw [hl]; simp [partVal, bcells_length, hk8]
          rw [e]; exact this) (by rw [hl]; simp) (fun b hb => hb) (by
          intro p hp
          rw [hl] at hp
          simp only [List.mem_cons, List.mem_nil_iff, or_false] at hp
          rcases hp with rfl | rfl | rfl
          · refine ⟨.inr ⟨w.heap.size, 0, rfl, (by omega), fun j u hj => ?_⟩, bcells_one _⟩
            have hj8 := (List.getElem?_eq_some_iff.1 hj).1
            rw [Nat.zero_add, askAt_cell hat3, AskD.atKey _ _ (by simpa [bcells_length, hk8] using hj8), ← hkey]
            exact hj
          · refine ⟨?_, bcells_one _⟩
            have := row_blk (S := fun b => b < W3.heap.size) hb1 (by omega)
            rw [hx]; exact this
          · exact ⟨(hrL.mono (S' := fun b => b < W3.heap.size) (fun b hb _ => by omega)).keeps (hm3.keeps (fun _ _ _ f => f)), bcells_one _⟩) (by rw [hlen, List.length_append, List.length_cons, hk8]; omega)
      have hl3 : l.length = 3 := by rw [hl]; rfl
      rw [hl3] at this
      refine this.mono ?_
      rintro e w' ⟨v, rfl, ho, hm⟩
      refine ⟨v, rfl, ?_, hm3.trans hm, (hmW.trans (hm3.trans hm)).cell c8 id⟩
      unfold OwnB
      rw [← hall, ← hlen]
      exact own_base ho (by omega))
    have HD := Lib.hid (And.intro hmW c8)
    clear hmW c8 hlc hrL
    go_region_held3 (fun W => W.cell? ⟨w.heap.size, 8, none⟩ = some (.int .i64 op)) (first | go_keep | (exact H3.out.2.2))
      ((go_at_call 24; refine HC.out.mono ?_; rintro e w3 ⟨v3, rfl, h1, h2, h3⟩; have H3 := Lib.hid (And.intro h1 (And.intro h2 h3)); clear h1 h2 h3))
    go_wp2
    go_ret2
    exact ⟨(HV.out.1.trans H2.out.2).trans H3.out.2.1, (fun _ => ⟨v3, rfl, H3.out.1⟩), (fun f => by cases f)⟩
end

section
attribute [local go_sem] stPair gtPair gtK8 gtM6 run_store_func run_store_nilFunc
attribute [local go_sem high] neqPair eqK8 eqM6
attribute [local go_sem ↓] load_fold store_fold alloc_fold slice_op_fold con_load_fold chg_load_fold ten_zero_fold con_alloc_fold con_store_fold con_zero_fold chg_alloc_fold chg_store_fold chg_zero_fold chg_put_fold macLoad_fold macStore_fold keyLoad_fold keyStore_fold chg_make_fold chg_slice_fold askLoad_fold askStore_fold askAlloc_fold askBox_fold askZero_fold reqLoad_fold reqStore_fold reqAlloc_fold reqBox_fold reqZero_fold askPut_fold reqPut_fold
open Go.RowKit
set_option linter.unusedVariables false
theorem askStore_nw (W : World) (CA : Array Value) (hc : CA.size = 75) (h1 : CA.all (·.oneCell') = true) : (askStore (.pointer (some ⟨W.heap.size, 0, none⟩)) (.agg CA)).run Try.prog (W.alloc (.cells AskD.zero.cells.toArray 40)) = .ok () (W.alloc (.cells CA 40)) := askStore_new W CA hc h1
def k7 : K8 := ⟨7, 0, 0, 0, 0, 0, 0, 0⟩
def ask4 : AskD := { AskD.zero with key := k7, op := 4 }
theorem ask4_ok : ask4.ok := ⟨AskD.zero_ok.chg, AskD.zero_ok.con, AskD.zero_ok.chg1, AskD.zero_ok.con1⟩
def kb9 : List UInt8 := [7, 0, 0, 0, 0, 0, 0, 0, 4]
theorem mread_kb9 : mread kb9 = .none true := rfl
theorem row_lt {B : Nat} {W : World} {A : Option Addr} {cs : List Value} (h : RowAt (fun b => B ≤ b) W A cs) : RowAt (fun b => b < W.heap.size) W A cs := h.mono (fun b hb _ => hb)
set_option maxRecDepth 100000 in
set_option maxHeartbeats 2000000 in
theorem known24 (w : World) : Calls Try.prog 6 #[] w fun e w' => e = .returned (.bool true) ∧ Mod No w w' := by
  obtain ⟨A4, hA4⟩ : ∃ A4, A4 = ask4.cells.toArray := ⟨_, rfl⟩
  have hpt : ∀ W, (askPut (.agg #[.int .u8 7, .int .u8 0, .int .u8 0, .int .u8 0, .int .u8 0, .int .u8 0, .int .u8 0, .int .u8 0]) (.int .i64 4)).run Try.prog W = .ok (.agg A4) W := fun W => by rw [hA4]; exact askPut_run k7 4 W
  have HB := Lib.hid (fun W => by
    have := bytes_some (w := W) ask4 ask4_ok (r := 25) (wr := 26) rfl true [] (by decide) (fun W' _ => wr_nothing _ (AskD.size ask4_ok))
    rw [← hA4] at this
    exact this)
  have HR := Lib.hid (fun (W : World) (A : Option Addr) (c : Nat) (hrow : RowAt (fun b => b < W.heap.size) W A (bcells kb9)) (hc : 9 ≤ c) => mread_ok (w := W) kb9 hrow hc (by decide))
  have HN := Lib.hid (fun (W : World) => mread_short (w := W) (A := none) (n := 0) (c := 0) (by decide) (.none false) rfl .zero 0)
  have HP := Lib.hid (fun (W : World) => reply_ok (S := fun _ => True) (w := W.alloc (.cells #[.int .u8 1] 5)) 9 [1] (A := some ⟨W.heap.size, 0, none⟩) (c := 1) (row_new (fun _ => True) W [1] |>.mono (fun _ _ _ => trivial)) (by decide))
  have HO := Lib.hid (fun (W : World) (A : Option Addr) (c : Nat) (hrow : RowAt (fun _ => True) W A (bcells [0, 9, 1])) (hc : 3 ≤ c) => openReply_ok (S := fun _ => True) (w := W) 0 9 [1] (n := 3) hrow rfl hc (by decide))
  have hal := askAlloc_run
  clear hA4
  go_enter Try.func6, Try.ntmps6
  go_upto_region 2 with (first | (go_at_call 15; refine (HB.out _).mono ?_; intro e w1 hq; obtain ⟨hm, hok, _⟩ := hq; obtain ⟨v1, rfl, ho1⟩ := hok rfl; have H1 := Lib.hid (And.intro hm ho1); clear hm ho1) | fail)
  obtain ⟨A1, c1, rfl, hc1, hr1⟩ := OwnB.open (show OwnB w1 w.heap.size v1 kb9 from H1.out.2)
  have HR1 := Lib.hid (And.intro hr1 hc1)
  rw [show kb9.length = 9 from rfl]
  clear hc1 hr1
  have HQ := Lib.hid (HR.out w1 A1 c1 (row_lt HR1.out.1) HR1.out.2)
  rw [mread_kb9] at HQ
  go_upto_region 3 with (first | (go_at_call 7; refine HQ.out.mono ?_; intro e w2 hq; obtain ⟨hm, hok, _⟩ := hq; obtain ⟨x, Q, q, rfl, hx, hxr⟩ := hok rfl; have hao := MRes.ask_ok (MRes.none true) (mkey kb9) (mop kb9) Q q hxr; have hst := askStore_nw w2 _ (AskD.size hao) (AskD.one hao); have H2 := Lib.hid (And.intro hm (And.intro hx hxr)); clear hm hx hxr hao) | fail)
  obtain ⟨CA, hCA⟩ : ∃ CA, CA = ((MRes.none true).ask (mkey kb9) (mop kb9) x Q q).cells.toArray := ⟨_, rfl⟩
  have hao := MRes.ask_ok (MRes.none true) (mkey kb9) (mop kb9) Q q H2.out.2.2
  refine grab_world fun V hV => ?_
  have hmV : Mod No w2 V := by rw [hV]; exact (Mod.refl _ _).alloc _
  have hat : askAt V w2.heap.size ((MRes.none true).ask (mkey kb9) (mop kb9) x Q q) := by rw [askAt, hV]; exact at10 w2 _
  have HV := Lib.hid (And.intro (H1.out.1.trans (H2.out.1.trans hmV)) (And.intro hat hao))
  rw [← hCA]
  clear hV hmV hat hao hst hCA
  have hz := askZero_run
  have hZs := AskD.size AskD.zero_ok
  have hZo := AskD.one AskD.zero_ok
  go_upto_region 4 with (first | (go_at_call 7; refine (HN.out _).mono ?_; intro e w3 hq; obtain ⟨hm, _, hbad⟩ := hq; obtain rfl := hbad rfl; have hst := askStore_nw w3 _ hZs hZo; have H3 := Lib.hid hm; clear hm hbad) | fail)
  refine grab_world fun V2 hV2 => ?_
  have hmV2 : Mod No V V2 := by rw [hV2]; exact H3.out.alloc _
  have H4 := Lib.hid hmV2
  clear hV2 hmV2 hst hZs hZo
  have HPP := Lib.hid (HP.out V2)
  go_upto_region 5 with (first
    | (go_at_call 10; refine HPP.out.mono ?_; rintro e w4 ⟨v4, rfl, ho4, hm4⟩; obtain ⟨A4, c4, rfl, hc4, hr4⟩ := OwnB.open (show OwnB w4 _ v4 [0, 9, 1] from ho4); have HOO := Lib.hid (HO.out w4 A4 c4 (hr4.mono (fun _ _ _ => trivial)) hc4); have H5 := Lib.hid hm4; clear ho4 hm4 hc4 hr4)
    | (go_at_call 11; refine HOO.out.mono ?_; rintro e w5 ⟨v5, rfl, ho5, hm5⟩; have H6 := Lib.hid (And.intro ho5 hm5); clear ho5 hm5)
    | fail)
  have hmw : Mod No V w5 := H4.out.trans ((((Mod.refl _ _).alloc _).trans H5.out).trans H6.out.2)
  have hat5 : askAt w5 w2.heap.size ((MRes.none true).ask (mkey kb9) (mop kb9) x Q q) := hmw.obj HV.out.2.1 id
  have c8 : w5.cell? ⟨w2.heap.size, 8, none⟩ = some (.int .i64 4) := (askAt_cell hat5 8).trans (AskD.at8 _)
  have kl : (keyLoad (.pointer (some ⟨w2.heap.size, 0, none⟩))).run Try.prog w5 = .ok (.agg #[.int .u8 7, .int .u8 0, .int .u8 0, .int .u8 0, .int .u8 0, .int .u8 0, .int .u8 0, .int .u8 0]) w5 := askAt_keyLoad hat5
  have eK : ∀ W, (binOp .eql 24 (.agg #[.int .u8 7, .int .u8 0, .int .u8 0, .int .u8 0, .int .u8 0, .int .u8 0, .int .u8 0, .int .u8 0]) (.agg #[.int .u8 7, .int .u8 0, .int .u8 0, .int .u8 0, .int .u8 0, .int .u8 0, .int .u8 0, .int .u8 0])).run Try.prog W = .ok (.bool true) W := fun W => by
    have := eqK8 k7 k7 W
    rw [decide_eq_true rfl] at this
    exact this
  obtain ⟨A5, c5, rfl, hc5, hr5⟩ := OwnB.open (show OwnB w5 _ v5 [1] from H6.out.1)
  have HY := Lib.hid (show Calls Try.prog 12 #[.slice A5 1 c5, .slice (some ⟨w5.heap.size, 0, none⟩) 1 1] (w5.alloc (.cells #[.int .u8 1] 5)) fun e w' => e = .returned (.bool true) ∧ w' = w5.alloc (.cells #[.int .u8 1] 5) from bytes_ok (S' := fun _ => True) A5 (some ⟨w5.heap.size, 0, none⟩) c5 1 [1] [1] (w := w5.alloc (.cells #[.int .u8 1] 5)) (hr5.keeps (((Mod.refl No w5).alloc _).keeps (fun _ _ _ f => f))) (row_new (fun _ => True) w5 [1] |>.mono (fun _ _ _ => trivial)))
  have HM := Lib.hid (HV.out.1.trans hmw)
  clear hmw hat5 hc5 hr5
  go_wp2_with (first | (go_at_call 12; refine HY.out.mono ?_; rintro e w6 ⟨rfl, rfl⟩) | fail)
  go_ret
  exact ⟨by simp, HM.out.alloc _⟩
end

section
attribute [local go_sem] stPair gtPair gtK8 gtM6 run_store_func run_store_nilFunc
attribute [local go_sem high] neqPair eqK8 eqM6
attribute [local go_sem ↓] load_fold store_fold alloc_fold slice_op_fold con_load_fold chg_load_fold ten_zero_fold con_alloc_fold con_store_fold con_zero_fold chg_alloc_fold chg_store_fold chg_zero_fold chg_put_fold macLoad_fold macStore_fold keyLoad_fold keyStore_fold chg_make_fold chg_slice_fold askLoad_fold askStore_fold askAlloc_fold askBox_fold askZero_fold reqLoad_fold reqStore_fold reqAlloc_fold reqBox_fold reqZero_fold askPut_fold reqPut_fold
open Go.RowKit
set_option linter.unusedVariables false
/-- A request that is read, whether it may be or not. -/
def ReadN (r : MRes) (key : K8) (op : Nat) (err : Nat) (w : World) (e : Ending) (w' : World) : Prop :=
  ∃ (CA : Array Value) (x : TV) (Q : Option Addr) (q : Nat), e = .returned (.tuple #[.agg CA, .int .i64 (err : Int)]) ∧ CA = (r.ask key op x Q q).cells.toArray ∧ x.t = r.ct ∧ x.Rows (fun b => w.heap.size ≤ b) w' ∧ Mod No w w' ∧ CA.size = 75 ∧ CA.all (·.oneCell') = true
theorem readN_of {r : MRes} {key : K8} {op : Nat} {w w' : World} {e : Ending} (h : MReadQ r key op w e w') : (r.ok = true ∧ ReadN r key op 0 w e w') ∨ (r.ok = false ∧ ReadN (.none false) .zero 0 160 w e w') := by
  obtain ⟨hm, h1, h2⟩ := h
  cases hr : r.ok with
  | true =>
    obtain ⟨x, Q, q, e1, e2, e3⟩ := h1 hr
    have hao := MRes.ask_ok r key op Q q e3
    exact .inl ⟨rfl, _, x, Q, q, e1, rfl, e2, e3, hm, AskD.size hao, AskD.one hao⟩
  | false =>
    have e1 := h2 hr
    have hz : AskD.zero = (MRes.none false).ask .zero 0 TV.zero none 0 := (show AskD.zero = askNew .zero 0 from rfl).trans (askNew_eq .zero 0 false)
    have hr0 := TV.zero_rows (fun b => w.heap.size ≤ b) w'
    refine .inr ⟨rfl, _, TV.zero, none, 0, by rw [e1]; rfl, by rw [← hz], rfl, hr0, hm, AskD.size AskD.zero_ok, AskD.one AskD.zero_ok⟩
theorem readN_calls {r : MRes} {key : K8} {op : Nat} : ∃ (r' : MRes) (key' : K8) (op' err : Nat), (∀ f args w, Calls Try.prog f args w (MReadQ r key op w) → Calls Try.prog f args w (ReadN r' key' op' err w)) ∧ (r.ct.small → r'.ct.small) ∧ (err = if r.ok then 0 else 160) := by
  cases hr : r.ok with
  | true => exact ⟨r, key, op, 0, (fun f args w h => h.mono fun e w' hq => by rcases readN_of hq with h1 | h1; exact h1.2; rw [hr] at h1; cases h1.1), id, rfl⟩
  | false => exact ⟨.none false, .zero, 0, 160, (fun f args w h => h.mono fun e w' hq => by rcases readN_of hq with h1 | h1; rw [hr] at h1; cases h1.1; exact h1.2), (fun _ => ⟨by decide, by decide, by decide⟩), rfl⟩
theorem ite_small {c : Prop} [Decidable c] {a b : MRes} (ha : a.ct.small) (hb : b.ct.small) : (if c then a else b).ct.small := by
  by_cases h : c
  · rw [if_pos h]; exact ha
  · rw [if_neg h]; exact hb
theorem none_small (b : Bool) : (MRes.none b).ct.small := show Ten.zero.small from ⟨by decide, by decide, by decide⟩
theorem mchg_small (B : List UInt8) : (mchg B).ct.small := ite_small (ocg_small B) (none_small _)
theorem mcon_small (B : List UInt8) : (mcon B).ct.small := ite_small (none_small true) (none_small _)
theorem mnamed_small (B : List UInt8) : (mnamed B).ct.small := by
  cases B with
  | nil => exact none_small _
  | cons x r => exact ite_small (none_small true) (none_small _)
theorem mrest_small (op : Nat) (B : List UInt8) : (mrest op B).ct.small :=
  ite_small (ite_small (none_small true) (none_small _)) (ite_small (mchg_small _) (ite_small (mcon_small _) (ite_small (none_small _) (ite_small (mnamed_small _) (none_small _)))))
theorem mread_small (B : List UInt8) : (mread B).ct.small := ite_small (none_small _) (mrest_small _ _)
theorem askIs_of {S : Nat → Prop} {w : World} (r : MRes) (key : K8) (op : Nat) {x : TV} (Q : Option Addr) (q : Nat) (h : x.Rows S w) : AskIs w (r.ask key op x Q q) key op r.ver r.put r.cn x r.cc Q q r.nm :=
  ⟨MRes.ask_ok r key op Q q h, by simp only [MRes.ask], by simp only [MRes.ask], by simp only [MRes.ask], by simp only [MRes.ask], by simp only [MRes.ask], by simp only [MRes.ask]⟩
theorem reqStore_nw (W : World) (CA : Array Value) (hc : CA.size = 75) (h1 : CA.all (·.oneCell') = true) : (reqStore (.pointer (some ⟨W.heap.size, 0, none⟩)) (.agg CA)).run Try.prog (W.alloc (.cells AskD.zero.cells.toArray 44)) = .ok () (W.alloc (.cells CA 44)) := reqStore_new W CA hc h1
set_option maxRecDepth 100000 in
set_option maxHeartbeats 2000000 in
theorem mgmtReads_walk {w : World} (A : Option Addr) (c : Nat) (B : List UInt8) (hc : B.length ≤ c) (h63 : B.length ≤ 9223372036854775807) (hrow : RowAt (fun _ => True) w A (bcells B)) :
    Calls Try.prog 3 #[.slice A B.length c] w fun e w' => e = .returned (.bool true) ∧ Mod No w w' := by
  have hrow' := hrow.mono (S' := fun b => b < w.heap.size) (fun b hb _ => hb)
  have hrw : ∀ W, Mod No w W → RowAt (fun b => b < W.heap.size) W A (bcells B) := fun W hW => (hrow'.keeps (hW.keeps (fun _ _ _ f => f))).mono (fun b hb _ => hb)
  obtain ⟨r, key, op, err, hN, hsm, herr⟩ := readN_calls (r := mread B) (key := mkey B) (op := mop B)
  have hct := hsm (mread_small B)
  have hK : B.length ≤ 3000 → ∀ W, Mod No w W → Calls Try.prog 7 #[.slice A B.length c] W (ReadN r key op err W) ∧ Calls Try.prog 8 #[.slice A B.length c] W (ReadN r key op err W) := fun h3 W hW =>
    ⟨hN _ _ _ (mread_ok B (hrw W hW) hc (by omega)), hN _ _ _ (rread_ok B (hrw W hW) hc (by omega))⟩
  obtain ⟨n, hn⟩ : ∃ n, n = B.length := ⟨_, rfl⟩
  rw [← hn] at hK h63
  rw [← hn]
  have HKN := Lib.hid (known24 w)
  have HK := Lib.hid hK
  have HS := Lib.hid hct
  have hao := askAlloc_run
  have har := reqAlloc_run
  clear hrow hrow' hrw hN hsm hct hK hn hc herr
  go_enter Try.func3, Try.ntmps3
  go_wp2_with fail
  refine HKN.out.mono ?_
  rintro e w1 ⟨rfl, m0⟩
  by_cases h4 : 3000 < n
  · have p1 : (3000 : Int) < n := by omega
    have M0 := Lib.hid m0
    clear m0
    go_wp2
    go_ret
    exact ⟨rfl, M0.out⟩
  have p1 : ¬ (3000 : Int) < n := by omega
  have HQ := Lib.hid (HK.out (by omega))
  have M0 := Lib.hid m0
  clear m0 h4 HK HKN
  go_upto_region 5 with fail
  have HC1 := Lib.hid (HQ.out w1 M0.out).1
  go_upto_region 6 with (first | (go_at_call 7; refine HC1.out.mono ?_; rintro e v1 ⟨C1, x1, Q1, q1, rfl, a1, a2, a3, a4, a5, a6⟩; have hst := askStore_nw v1 C1 a5 a6; have HN1 := Lib.hid (And.intro a1 (And.intro a2 (And.intro a3 (And.intro a4 (And.intro a5 a6))))); clear a1 a2 a3 a4 a5 a6) | fail)
  refine grab_world fun V1 hV1 => ?_
  have m : Mod No v1 V1 := by rw [hV1]; exact (Mod.refl _ _).alloc _
  have HB1 := Lib.hid (And.intro (show V1.heap[v1.heap.size]? = some (.cells C1 40 (0, 0)) by rw [hV1]; exact at10 _ _) m)
  have M1 := Lib.hid ((M0.out.trans HN1.out.2.2.2.1).trans m)
  clear hV1 m hst HC1
  have HC2 := Lib.hid (HQ.out V1 M1.out).2
  go_upto_region 7 with (first | (go_at_call 8; refine HC2.out.mono ?_; rintro e v2 ⟨C2, x2, Q2, q2, rfl, a1, a2, a3, a4, a5, a6⟩; have hst := reqStore_nw v2 C2 a5 a6; have HN2 := Lib.hid (And.intro a1 (And.intro a2 (And.intro a3 (And.intro a4 (And.intro a5 a6))))); clear a1 a2 a3 a4 a5 a6) | fail)
  refine grab_world fun V2 hV2 => ?_
  have m : Mod No v2 V2 := by rw [hV2]; exact (Mod.refl _ _).alloc _
  have HB2 := Lib.hid (And.intro (show V2.heap[v2.heap.size]? = some (.cells C2 44 (0, 0)) by rw [hV2]; exact at10 _ _) m)
  have M2 := Lib.hid ((M1.out.trans HN2.out.2.2.2.1).trans m)
  clear hV2 m hst HC2
  have T1 : Mod No V1 V2 := HN2.out.2.2.2.1.trans HB2.out.2
  have ld1 := askLoad_run (T1.obj HB1.out.1 id) HN1.out.2.2.2.2.1
  have ld2 := reqLoad_run HB2.out.1 HN2.out.2.2.2.2.1
  have HSM := Lib.hid (show Calls Try.prog 9 #[.agg C1, .agg C2] V2 fun e w' => e = .returned (.bool true) ∧ Mod No V2 w' by
    rw [HN1.out.1, HN2.out.1]
    have k1 := HN1.out.2.2.1.keeps (HB1.out.2.keeps (fun _ _ _ f => f))
    have k2 := k1.keeps (T1.keeps (fun _ _ _ f => f))
    have k3 := HN2.out.2.2.1.keeps (HB2.out.2.keeps (fun _ _ _ f => f))
    exact same_true (askIs_of r key op Q1 q1 k2) (askIs_of r key op Q2 q2 k3) k2 k3 (by rw [HN1.out.2.1, HN2.out.2.1]) (by rw [HN2.out.2.1]; exact HS.out))
  have z1 : ((err : Int) == err) = true := by simp
  clear T1
  go_wp2_with (first | (go_at_call 9; refine HSM.out.mono ?_; rintro e u1 ⟨rfl, n1⟩; have N1 := Lib.hid n1; clear n1) | fail)
  go_ret
  exact ⟨rfl, M2.out.trans N1.out⟩
end

end Go.Proofs.Ytpkieilmlnlpkaa
