/-
  MgI, MgP, MgQ, MgE, MgJ, MgK, MgL, MgM in one text (pack.py).
-/
import Derived.Test.YtpkieilmlnlpkaaGreatW8
import Derived.Laws.CopyOwn
namespace Go.Proofs.YtpkieilmlnlpkaaGreat

section
attribute [local go_sem] stPair gtPair gtK8 gtM6 run_store_func run_store_nilFunc
attribute [local go_sem high] neqPair eqK8 eqM6
attribute [local go_sem ↓] load_fold store_fold alloc_fold slice_op_fold con_load_fold chg_load_fold ten_zero_fold con_alloc_fold con_store_fold con_zero_fold chg_alloc_fold chg_store_fold chg_zero_fold chg_put_fold macLoad_fold macStore_fold keyLoad_fold keyStore_fold chg_make_fold chg_slice_fold askLoad_fold askStore_fold askAlloc_fold askBox_fold askZero_fold reqLoad_fold reqStore_fold reqAlloc_fold reqBox_fold reqZero_fold askPut_fold reqPut_fold
open Go.RowKit
set_option linter.unusedVariables false
def w8row (L : List UInt8) (k : Nat) : List UInt8 := L.take k ++ List.replicate (8 - k) 0
theorem w8_set (L : List UInt8) (hL : L.length = 8) (k : Nat) (x : UInt8) (hx : L[k]? = some x) : (w8row L k).set k x = w8row L (k + 1) := by
  have hk : k < 8 := by have := (List.getElem?_eq_some_iff.1 hx).1; omega
  unfold w8row
  rw [take_snoc'' hx]
  have hr : List.replicate (8 - k) (0 : UInt8) = 0 :: List.replicate (8 - (k + 1)) 0 := by rw [show 8 - k = (8 - (k + 1)) + 1 by omega]; rfl
  rw [hr, set_app _ _ _ _ k (by rw [List.length_take]; omega)]
  simp
set_option maxRecDepth 100000 in
theorem wr_begin {w : World} (a : AskD) (ha : a.ok) : Calls Tryz.prog 31 #[.agg a.cells.toArray] w (WrQ true (be 8 a.ver) w) := by
  have hs := AskD.size ha
  obtain ⟨CA, hCA⟩ : ∃ CA, CA = a.cells.toArray := ⟨_, rfl⟩
  rw [← hCA] at hs
  rw [← hCA]
  have hb := askBox_new CA hs
  obtain ⟨W, hW⟩ : ∃ W, W = (w.alloc (.cells CA 45)).alloc (.cells (bcells (List.replicate 8 0)).toArray 5) := ⟨_, rfl⟩
  have hat : askAt W w.heap.size a := by rw [askAt, ← hCA, hW]; exact at20 w _ _
  have hg : W.heap[w.heap.size + 1]? = some (.cells (bcells (List.replicate 8 0)).toArray 5 (0, 0)) := by rw [hW]; exact at21 w _ _
  have hm1 : Mod No w W := by rw [hW]; exact ((Mod.refl _ _).alloc _).alloc _
  have hmk := make_bytes 8 (by decide)
  have hmk' : ∀ W : World, (Instr.makeSlice 40 (.int .i64 8) (.int .i64 8)).run Tryz.prog W = .ok (.slice (some ⟨W.heap.size, 0, none⟩) 8 8) (W.alloc (.cells (bcells (List.replicate 8 0)).toArray 5)) := hmk
  obtain ⟨n, hn⟩ : ∃ n, n = a.ver := ⟨_, rfl⟩
  rw [← hn]
  have H0 := Lib.hid (And.intro hat (And.intro hg (And.intro hm1 hn)))
  have HW := Lib.hid hW
  obtain ⟨Z8, hZ8⟩ : ∃ Z8, Z8 = (bcells (List.replicate 8 0)).toArray := ⟨_, rfl⟩
  rw [← hZ8] at hmk' HW
  clear hs hCA hat hg hm1 hn hW hmk hZ8
  go_enter Tryz.func31, Tryz.ntmps31
  go_wp2
  refine grab_world fun wg hwg => ?_
  rw [← HW.out] at hwg
  subst hwg
  clear HW
  go_loopw [5, 9] (fun x i wr => ∃ (k : Nat), i = .int .i64 k ∧ k ≤ 8 ∧ wr.heap[w.heap.size + 1]? = some (.cells (bcells (w8row (be 8 n) k)).toArray 5 (0, 0)) ∧ Mod (fun b => b = w.heap.size + 1) wg wr) (fun _ i _ => 8 - (intOf i).toNat)
  case atStart => exact ⟨0, rfl, by omega, H0.out.2.1, Mod.refl _ _⟩
  case round =>
    obtain ⟨k, rfl, hk, hrow, hm⟩ := hrel
    by_cases hlt : k < 8
    · have hatr : askAt wr w.heap.size a := hm.obj H0.out.1 (by omega)
      have c9 : wr.cell? ⟨w.heap.size, 9, none⟩ = some (.int .u64 (n : Int)) := by rw [askAt_cell hatr, AskD.at9, H0.out.2.2.2]
      have fr := blk_free hrow k
      have hl8 : (w8row (be 8 n) k).length = 8 := by simp [w8row, be_length]; omega
      obtain ⟨u, hu⟩ : ∃ u, (bcells (w8row (be 8 n) k))[k]? = some u := ⟨_, List.getElem?_eq_getElem (by rw [bcells_length, hl8]; exact hlt)⟩
      have cu : wr.cell? ⟨w.heap.size + 1, k, none⟩ = some u := by rw [blk_cell hrow]; simpa using hu
      have p1 : (0 : Int) ≤ k := by omega
      have p2 : (k : Int) < 8 := by omega
      have hx : (be 8 n)[k]? = some (UInt8.ofNat (n / 256 ^ (7 - k))) := by
        have h1 := be_take n 8 (8 - k) (by omega)
        rw [show 8 - k = (7 - k) + 1 by omega, be_succ (7 - k) n, show 8 - (7 - k + 1) = k by omega] at h1
        have := congrArg (fun l : List UInt8 => l[0]?) h1
        simp only [List.getElem?_drop, Nat.add_zero] at this
        exact this
      have hbv : (n : Int) / 2 ^ (56 - 8 * k) % 256 = ((UInt8.ofNat (n / 256 ^ (7 - k))).toNat : Int) := by
        have := wrap_u8_low n (7 - k)
        rw [← this, show 8 * (7 - k) = 56 - 8 * k by omega]
        simp [IntKind.wrap, IntKind.bits, IntKind.signed]
      have hfin : (wr.setCell ⟨w.heap.size + 1, k, none⟩ (.int .u8 ((n : Int) / 2 ^ (56 - 8 * k) % 256))).heap[w.heap.size + 1]? = some (.cells (bcells (w8row (be 8 n) (k + 1))).toArray 5 (0, 0)) := by
        rw [heap_setCell_row hrow, hbv, ← w8_set (be 8 n) (be_length 8 n) k _ hx]
        simp only [List.setIfInBounds_toArray, bcells, List.map_set]
      have hmf : Mod (fun b => b = w.heap.size + 1) wg (wr.setCell ⟨w.heap.size + 1, k, none⟩ (.int .u8 ((n : Int) / 2 ^ (56 - 8 * k) % 256))) := Mod.setCell (p := ⟨w.heap.size + 1, k, none⟩) hm (.inr rfl) _
      have HR := Lib.hid (And.intro hfin hmf)
      clear hatr hrow hm hu hl8 hx hbv hfin hmf
      go_wp2
      exact ⟨⟨k + 1, by go_num, by omega, HR.out⟩, by simp [intOf]; omega⟩
    · obtain rfl : k = 8 := by omega
      have hfin : OwnB wr w.heap.size (.slice (some ⟨w.heap.size + 1, 0, none⟩) 8 8) (be 8 n) := by
        have e : w8row (be 8 n) 8 = be 8 n := by simp [w8row, List.take_of_length_le, be_length]
        rw [e] at hrow
        refine ⟨by rw [bcells_length, Nat.mul_one], .inr ⟨w.heap.size + 1, 8, (bcells (be 8 n)).toArray, by rw [be_length], by omega, hrow, by rw [be_length]; omega, by decide, by simp [bcells_length, be_length], ?_⟩⟩
        rw [Nat.mul_one, be_length, List.take_of_length_le (by simp [bcells_length, be_length])]
      have hmf : Mod No w wr := H0.out.2.2.1.trans' hm (fun i hi hg => by omega)
      have HF := Lib.hid (And.intro hfin hmf)
      clear hrow hm hfin hmf
      go_wp2
      go_ret2
      exact ⟨_, rfl, HF.out⟩
theorem row_blk {S : Nat → Prop} {W : World} {b : Nat} {cs : Array Value} {t : TypeId} {fr : Nat × Nat} (h : W.heap[b]? = some (.cells cs t fr)) (hS : S b) : RowAt S W (some ⟨b, 0, none⟩) cs.toList := by
  refine .inr ⟨b, 0, rfl, hS, fun j u hj => ?_⟩
  rw [Nat.zero_add]
  have : cs[j]? = some u := by simpa using hj
  simp [World.cell?, h, this]
/-- What a request's bytes are, and whether they may be. -/
def BytesQ (ok : Bool) (L : List UInt8) (w : World) (e : Ending) (w' : World) : Prop :=
  Mod No w w' ∧ (ok = true → ∃ v, e = .returned (.tuple #[v, .int .i64 0]) ∧ OwnB w' w.heap.size v L) ∧ (ok = false → e = .returned (.tuple #[.slice none 0 0, .int .i64 160]))
theorem BytesQ.bad {L : List UInt8} {w w' : World} (h : Mod No w w') : BytesQ false L w (.returned (.tuple #[.slice none 0 0, .int .i64 160])) w' := ⟨h, (fun f => by cases f), fun _ => rfl⟩
set_option maxRecDepth 100000 in
set_option maxHeartbeats 1000000 in
theorem bytes_none {w : World} (a : AskD) (ha : a.ok) (hk : kindOf a.op = none) : Calls Tryz.prog 7 #[.agg a.cells.toArray] w (BytesQ false [] w) := by
  have hs := AskD.size ha
  obtain ⟨CA, hCA⟩ : ∃ CA, CA = a.cells.toArray := ⟨_, rfl⟩
  rw [← hCA] at hs
  rw [← hCA]
  have hb := askBox_new CA hs
  have hat : askAt (w.alloc (.cells CA 45)) w.heap.size a := by rw [askAt, ← hCA]; exact at10 w _
  have c8 : (w.alloc (.cells CA 45)).cell? ⟨w.heap.size, 8, none⟩ = some (.int .i64 a.op) := (askAt_cell hat 8).trans (AskD.at8 a)
  obtain ⟨op, hop⟩ : ∃ op, op = a.op := ⟨_, rfl⟩
  rw [← hop] at c8 hk
  have hkv : kindV op = .tuple #[.agg #[.nilFunc, .nilFunc], .bool false] := by rw [kindV, hk]
  have HK := Lib.hid (fun W => kinds_ok W op)
  rw [hkv] at HK
  clear hs hCA hat hop ha hk hkv
  go_enter Tryz.func7, Tryz.ntmps7
  go_wp2_with (first | (go_at_call 15; refine (HK.out _).mono ?_; rintro e w1 ⟨rfl, hm1⟩; have H1 := Lib.hid hm1; clear hm1) | fail)
  go_ret2
  exact BytesQ.bad ((((Mod.refl No w).alloc _).trans H1.out).alloc _)
set_option maxRecDepth 100000 in
set_option maxHeartbeats 1000000 in
theorem bytes_some {w : World} (a : AskD) (ha : a.ok) {r wr : Nat} (hk : kindOf a.op = some (r, wr)) (ok : Bool) (L : List UInt8) (hL : L.length ≤ 90000000)
    (HW : ∀ W, Mod No w W → Calls Tryz.prog wr #[.agg a.cells.toArray] W (WrQ ok L W)) :
    Calls Tryz.prog 7 #[.agg a.cells.toArray] w (BytesQ ok (a.key.l ++ UInt8.ofNat (a.op % 256).toNat :: L) w) := by
  have hs := AskD.size ha
  obtain ⟨CA, hCA⟩ : ∃ CA, CA = a.cells.toArray := ⟨_, rfl⟩
  rw [← hCA] at hs HW
  rw [← hCA]
  have hb := askBox_new CA hs
  have hat : ∀ W, Mod No (w.alloc (.cells CA 45)) W → askAt W w.heap.size a := fun W hW => by rw [askAt, ← hCA]; exact hW.obj (at10 w _) id
  have c8 : (w.alloc (.cells CA 45)).cell? ⟨w.heap.size, 8, none⟩ = some (.int .i64 a.op) := (askAt_cell (hat _ (Mod.refl _ _)) 8).trans (AskD.at8 a)
  have hx : bcells [UInt8.ofNat (a.op % 256).toNat] = [.int .u8 (IntKind.u8.wrap a.op)] := by
    simp [bcells, IntKind.wrap, IntKind.bits, IntKind.signed]
    omega
  obtain ⟨op, hop⟩ : ∃ op, op = a.op := ⟨_, rfl⟩
  obtain ⟨key, hkey⟩ : ∃ key, key = a.key := ⟨_, rfl⟩
  rw [← hop] at c8 hk hx
  rw [← hop, ← hkey]
  have hkv : kindV op = .tuple #[.agg #[.func (.func r) #[] #[], .func (.func wr) #[] #[]], .bool true] := by rw [kindV, hk]; rfl
  have HK := Lib.hid (fun W => kinds_ok W op)
  rw [hkv] at HK
  have hen := (kind_enters hk).2
  have HWW := Lib.hid HW
  have H0 := Lib.hid (And.intro hat (And.intro hCA (And.intro hs (And.intro hop (And.intro hkey hx)))))
  clear hCA hat hop ha hk hkv HW hkey hs hx
  go_enter Tryz.func7, Tryz.ntmps7
  go_upto_region 4 with (first | (go_at_call 15; refine (HK.out _).mono ?_; rintro e w1 ⟨rfl, hm1⟩; have H1 := Lib.hid hm1; clear hm1) | fail)
  refine grab_world fun V hV => ?_
  have hmV : Mod No (w.alloc (.cells CA 45)) V := by rw [hV]; exact H1.out.alloc _
  have hld := askLoad_run (show V.heap[w.heap.size]? = some (.cells CA 45 (0, 0)) by have := H0.out.1 V hmV; rw [askAt, ← H0.out.2.1] at this; exact this) H0.out.2.2.1
  have ck : V.cell? ⟨w1.heap.size, 1, none⟩ = some (.func (.func wr) #[] #[]) := by rw [hV]; exact (blk_cell (at10 w1 _) 1).trans rfl
  have HV := Lib.hid (And.intro (((Mod.refl No w).alloc _).trans hmV) hmV)
  clear hV hmV
  cases ok with
  | false =>
    go_wp2_with (refine (HWW.out V HV.out.1).mono ?_; intro e w2 hq; obtain ⟨v, hq1, hq2, hq3⟩ := hq; subst hq1; have H2 := Lib.hid hq3; clear hq2 hq3)
    go_ret2
    exact ⟨HV.out.1.trans H2.out, (fun f => by cases f), (fun _ => rfl)⟩
  | true =>
    go_upto_region 7 with (refine (HWW.out V HV.out.1).mono ?_; intro e w2 hq; obtain ⟨v, hq1, hq2, hq3⟩ := hq; subst hq1; have H2 := Lib.hid (And.intro hq2 hq3); clear hq2 hq3)
    obtain ⟨A, c, rfl, hlc, hrL⟩ := OwnB.open H2.out.1
    have hmW : Mod No (w.alloc (.cells CA 45)) w2 := HV.out.2.trans H2.out.2
    have c8w := hmW.cell c8 id
    have HC := Lib.hid (show Calls Tryz.prog 16 #[.slice (some ⟨w2.heap.size + 1, 0, none⟩) 3 3] ((w2.alloc (.cells #[.int .u8 (IntKind.u8.wrap op)] 5)).alloc (.cells #[.slice (some ⟨w.heap.size, 0, none⟩) 8 8, .slice (some ⟨w2.heap.size, 0, none⟩) 1 1, .slice A L.length c] 40)).drew fun e w' => ∃ v, e = .returned v ∧ OwnB w' w.heap.size v (key.l ++ UInt8.ofNat (op % 256).toNat :: L) ∧ Mod No w2 w' ∧ w'.cell? ⟨w.heap.size, 8, none⟩ = some (.int .i64 op) from by
      obtain ⟨W3, hW3⟩ : ∃ W3, W3 = ((w2.alloc (.cells #[.int .u8 (IntKind.u8.wrap op)] 5)).alloc (.cells #[.slice (some ⟨w.heap.size, 0, none⟩) 8 8, .slice (some ⟨w2.heap.size, 0, none⟩) 1 1, .slice A L.length c] 40)).drew := ⟨_, rfl⟩
      rw [← hW3]
      have hm3 : Mod No w2 W3 := by rw [hW3]; exact (((Mod.refl _ _).alloc _).alloc _).drew
      have hb1 : W3.heap[w2.heap.size]? = some (.cells #[.int .u8 (IntKind.u8.wrap op)] 5 (0, 0)) := by rw [hW3]; exact at20 w2 _ _
      have hb2 : W3.heap[w2.heap.size + 1]? = some (.cells #[.slice (some ⟨w.heap.size, 0, none⟩) 8 8, .slice (some ⟨w2.heap.size, 0, none⟩) 1 1, .slice A L.length c] 40 (0, 0)) := by rw [hW3]; exact at21 w2 _ _
      have hs3 : W3.heap.size = w2.heap.size + 2 := by rw [hW3]; simp
      obtain ⟨hat, hCA, hs, hop, hkey, hx⟩ := H0.out
      have hat3 := hat W3 (hmW.trans hm3)
      have hlw : w.heap.size < w2.heap.size := by have := lt_of_block (hat w2 hmW); exact this
      obtain ⟨l, hl⟩ : ∃ l : List (Option Addr × Nat × List Value), l = [(some ⟨w.heap.size, 0, none⟩, 8, bcells key.l), (some ⟨w2.heap.size, 0, none⟩, 1, bcells [UInt8.ofNat (op % 256).toNat]), (A, c, bcells L)] := ⟨_, rfl⟩
      have hall : partsAll l = bcells (key.l ++ UInt8.ofNat (op % 256).toNat :: L) := by rw [hl]; simp [partsAll, bcells]
      have hlen : (partsAll l).length = (key.l ++ UInt8.ofNat (op % 256).toNat :: L).length := by rw [hall, bcells_length]
      have hk8 : key.l.length = 8 := rfl
      have := concat_okU8 (S := fun b => b < W3.heap.size) (w := W3) l (Q := some ⟨w2.heap.size + 1, 0, none⟩) (q := 3) (by
          have := row_blk (S := fun b => b < W3.heap.size) hb2 (by omega)
          have e : l.map partVal = (#[.slice (some ⟨w.heap.size, 0, none⟩) 8 8, .slice (some ⟨w2.heap.size, 0, none⟩) 1 1, .slice A L.length c] : Array Value).toList := by
            rw [hl]; simp [partVal, bcells_length, hk8]
          rw [e]; exact this) (by rw [hl]; simp) (fun b hb => hb) (by
          intro p hp
          rw [hl] at hp
          simp only [List.mem_cons, List.mem_nil_iff, or_false] at hp
          rcases hp with rfl | rfl | rfl
          · refine ⟨.inr ⟨w.heap.size, 0, rfl, (by omega), fun j u hj => ?_⟩, bcells_one _⟩
            have hj8 := (List.getElem?_eq_some_iff.1 hj).1
            rw [Nat.zero_add, askAt_cell hat3, AskD.atKey _ _ (by simpa [bcells_length, hk8] using hj8), ← hkey]
            exact hj
          · refine ⟨?_, bcells_one _⟩
            have := row_blk (S := fun b => b < W3.heap.size) hb1 (by omega)
            rw [hx]; exact this
          · exact ⟨(hrL.mono (S' := fun b => b < W3.heap.size) (fun b hb _ => by omega)).keeps (hm3.keeps (fun _ _ _ f => f)), bcells_one _⟩) (by rw [hlen, List.length_append, List.length_cons, hk8]; omega)
      have hl3 : l.length = 3 := by rw [hl]; rfl
      rw [hl3] at this
      refine this.mono ?_
      rintro e w' ⟨v, rfl, ho, hm⟩
      refine ⟨v, rfl, ?_, hm3.trans hm, (hmW.trans (hm3.trans hm)).cell c8 id⟩
      unfold OwnB
      rw [← hall, ← hlen]
      exact own_base ho (by omega))
    have HD := Lib.hid (And.intro hmW c8)
    clear hmW c8 hlc hrL
    go_region_held3 (fun W => W.cell? ⟨w.heap.size, 8, none⟩ = some (.int .i64 op)) (first | go_keep | (exact H3.out.2.2))
      ((go_at_call 16; refine HC.out.mono ?_; rintro e w3 ⟨v3, rfl, h1, h2, h3⟩; have H3 := Lib.hid (And.intro h1 (And.intro h2 h3)); clear h1 h2 h3))
    go_wp2
    go_ret2
    exact ⟨(HV.out.1.trans H2.out.2).trans H3.out.2.1, (fun _ => ⟨v3, rfl, H3.out.1⟩), (fun f => by cases f)⟩
end

section
attribute [local go_sem] stPair gtPair gtK8 gtM6 run_store_func run_store_nilFunc
attribute [local go_sem high] neqPair eqK8 eqM6
attribute [local go_sem ↓] load_fold store_fold alloc_fold slice_op_fold con_load_fold chg_load_fold ten_zero_fold con_alloc_fold con_store_fold con_zero_fold chg_alloc_fold chg_store_fold chg_zero_fold chg_put_fold macLoad_fold macStore_fold keyLoad_fold keyStore_fold chg_make_fold chg_slice_fold askLoad_fold askStore_fold askAlloc_fold askBox_fold askZero_fold reqLoad_fold reqStore_fold reqAlloc_fold reqBox_fold reqZero_fold askPut_fold reqPut_fold
open Go.RowKit
set_option linter.unusedVariables false
/-- Bytes that lie in a row, nil or empty too, put behind one's own. -/
theorem gr_app {S : Nat → Prop} {w w0 : World} {base : Nat} {v0 v : Value} {L : List UInt8} (g : Gr base v0 w0 v w L) (hb : base ≤ w.heap.size) (X : List UInt8) {A : Option Addr} (m c : Nat) (hm : m = X.length) (hr : RowAt S w A (bcells X)) (hl : L.length + X.length ≤ 100000000) :
    ∃ v' w', (∀ ty, (Builtin.append_ #[40, 40] ty #[v, .slice A m c]).run Tryz.prog w = .ok v' w') ∧ Gr base v0 w0 v' w' (L ++ X) := by
  subst hm
  obtain ⟨i0, hi, hz0, hz1, hz2⟩ := info_parts infoU8
  obtain ⟨v2, w2, hrun, ho2, hg2, hb2⟩ := run_append_row (P := Tryz.prog) w base 40 0 5 i0 _ 1 1 Tryz.underlying40 hi hz0 hz1 hz2 rfl (by decide) v _ _ g.own A X.length c (bcells X) hr (by rw [bcells_length, Nat.mul_one]) (bcells_one X) (by unfold maxLen; omega) (by omega) hb
  exact ⟨v2, w2, fun ty => hrun, g.trans (gr_append ho2 hg2 hb2)⟩
/-- A request as it is to be written. -/
structure AskW where
  key : K8
  op : Int
  ver : Nat
  put : Bool
  cn : List UInt8
  x : TV
  c : Con
  P : Option Addr
  p : Nat
  l : List TV
  nm : List UInt8
def AskW.d (a : AskW) : AskD := ⟨a.key, a.op, a.ver, (cChg a.put a.cn a.x).toList, (a.c.cells (.slice a.P a.l.length a.p)).toList, a.nm⟩
theorem AskW.d_chg (a : AskW) : a.d.chg = (cChg a.put a.cn a.x).toList := by simp only [AskW.d]
theorem AskW.d_con (a : AskW) : a.d.con = (a.c.cells (.slice a.P a.l.length a.p)).toList := by simp only [AskW.d]
theorem AskW.d_ver (a : AskW) : a.d.ver = a.ver := by simp only [AskW.d]
theorem AskW.d_nm (a : AskW) : a.d.name = a.nm := by simp only [AskW.d]
structure AskW.Ok (a : AskW) (w : World) : Prop where
  rows : a.x.Rows (· < w.heap.size) w
  tok : a.x.t.Ok
  tl : a.x.t.name.length ≤ 300 ∧ a.x.t.pool.length ≤ 300 ∧ a.x.t.statics.length ≤ 300 ∧ a.x.t.twices.length ≤ 300
  cn : a.cn.length ≤ 300
  nm : a.nm.length ≤ 300
  ip : a.c.ip < 4294967296
  dr : a.c.drain < 4294967296
  lrow : RowAt (· < w.heap.size) w a.P (tvCells a.l)
  ll : a.l.length ≤ 5
  lok : ∀ y ∈ a.l, y.t.Ok ∧ y.Rows (· < w.heap.size) w ∧ y.t.name.length ≤ 300 ∧ y.t.pool.length ≤ 300 ∧ y.t.statics.length ≤ 300 ∧ y.t.twices.length ≤ 300
theorem AskW.Ok.at {a : AskW} {w W : World} (h : a.Ok w) (hW : Mod No w W) : a.Ok W := by
  have kp : Keeps (· < w.heap.size) w W := hW.keeps (fun _ _ _ f => f)
  have up : ∀ b, b < w.heap.size → b < W.heap.size := fun b hb => Nat.lt_of_lt_of_le hb hW.size
  exact ⟨(h.rows.keeps kp).imp up, h.tok, h.tl, h.cn, h.nm, h.ip, h.dr, (h.lrow.keeps kp).mono (fun b hb _ => hb), h.ll, fun y hy => ⟨(h.lok y hy).1, ((h.lok y hy).2.1.keeps kp).imp up, (h.lok y hy).2.2⟩⟩
theorem AskW.dok {a : AskW} {w : World} (h : a.Ok w) : a.d.ok :=
  ⟨by simpa [AskW.d] using cChg_size _ _ _, rfl, fun v hv => Array.all_eq_true_iff_forall_mem.1 (cChg_one a.put a.cn h.rows) v (by simpa [AskW.d] using hv),
    fun v hv => Array.all_eq_true_iff_forall_mem.1 (con_one a.c a.P a.l.length a.p) v (by simpa [AskW.d] using hv)⟩
/-- What stands behind the first nine bytes; may it be? -/
def AskW.rest (a : AskW) : List UInt8 :=
  if a.op = 1 then be 8 a.ver else if a.op = 2 then wchg a.put a.cn a.x.t else if a.op = 3 then wcon a.c a.l else if a.op = 7 ∨ a.op = 8 then UInt8.ofNat a.nm.length :: a.nm else []
def AskW.may (a : AskW) : Bool := decide (1 ≤ a.op ∧ a.op ≤ 8 ∧ (a.op = 3 → a.l = []) ∧ (7 ≤ a.op → a.nm.length ≤ 255))
def AskW.bytes (a : AskW) : List UInt8 := a.key.l ++ UInt8.ofNat (a.op % 256).toNat :: a.rest
theorem AskW.rest_le {a : AskW} {w : World} (h : a.Ok w) : a.rest.length ≤ 1000000 := by
  unfold AskW.rest
  by_cases h1 : a.op = 1
  · rw [if_pos h1, be_length]; omega
  rw [if_neg h1]
  by_cases h2 : a.op = 2
  · rw [if_pos h2, wchg]
    have := wten_len a.x.t
    have := h.cn
    split
    · simp; omega
    · simp [nameB, be_length, List.length_take]; omega
  rw [if_neg h2]
  by_cases h3 : a.op = 3
  · rw [if_pos h3]
    have e1 : (wcon a.c a.l).length ≤ 100 + (wtens (a.l.take 255)).length := by simp [wcon, cfields, be_length, K8.l, M6.l]; omega
    have := wtens_len (a.l.take 255)
    have := h.ll
    have : (a.l.take 255).length ≤ 5 := by rw [List.length_take]; omega
    omega
  rw [if_neg h3]
  by_cases h7 : a.op = 7 ∨ a.op = 8
  · rw [if_pos h7, List.length_cons]
    have := h.nm
    omega
  · rw [if_neg h7]; simp
/-- The program's bytes of a request. -/
theorem bytes_any {w : World} (a : AskW) (h : a.Ok w) : Calls Tryz.prog 7 #[.agg a.d.cells.toArray] w (BytesQ a.may a.bytes w) := by
  have hd := AskW.dok h
  have hw : ∀ (W : World), Mod No w W → a.Ok W := fun W hW => h.at hW
  have fin : ∀ {r wr : Nat} (ok : Bool) (L : List UInt8), kindOf a.op = some (r, wr) → ok = a.may → L = a.rest → (∀ W, Mod No w W → Calls Tryz.prog wr #[.agg a.d.cells.toArray] W (WrQ ok L W)) → Calls Tryz.prog 7 #[.agg a.d.cells.toArray] w (BytesQ a.may a.bytes w) := by
    intro r wr ok L hk ho hL hW
    subst ho
    subst hL
    exact bytes_some a.d hd hk a.may a.rest (by have := AskW.rest_le h; omega) hW
  by_cases h1 : a.op = 1
  · refine fin (r := 30) (wr := 31) true (be 8 a.ver) (by rw [kindOf, if_pos h1]) ?_ (by rw [AskW.rest, if_pos h1]) (fun W hW => by have := wr_begin (w := W) a.d hd; rwa [a.d_ver] at this)
    exact (decide_eq_true ⟨by omega, by omega, fun f => by omega, fun f => by omega⟩).symm
  by_cases h2 : a.op = 2
  · refine fin (r := 32) (wr := 34) true _ (by rw [kindOf, if_neg h1, if_pos h2]) ?_ (by rw [AskW.rest, if_neg h1, if_pos h2]) (fun W hW => wr_stage a.d hd a.put a.cn a.x a.d_chg (hw W hW).rows h.tok (by have := h.tl; omega) (by have := h.cn; omega))
    exact (decide_eq_true ⟨by omega, by omega, fun f => by omega, fun f => by omega⟩).symm
  by_cases h3 : a.op = 3
  · refine fin (r := 36) (wr := 38) (decide (a.l = [])) _ (by rw [kindOf, if_neg h1, if_neg h2, if_pos h3]) ?_ (by rw [AskW.rest, if_neg h1, if_neg h2, if_pos h3]) (fun W hW => wr_gate a.d hd a.c a.l a.P a.p a.d_con h.ip h.dr (by have := h.ll; omega) (hw W hW).lrow (fun y hy => ⟨(h.lok y hy).1, by have := (h.lok y hy).2.2.1; omega, ((hw W hW).lok y hy).2.1⟩))
    unfold AskW.may
    rw [Bool.eq_iff_iff]
    simp only [decide_eq_true_eq]
    exact ⟨fun f => ⟨by omega, by omega, fun _ => f, fun f => by omega⟩, fun f => f.2.2.1 h3⟩
  by_cases h4 : a.op = 4 ∨ a.op = 5 ∨ a.op = 6
  · refine fin (r := 26) (wr := 27) true [] (by rw [kindOf, if_neg h1, if_neg h2, if_neg h3, if_pos h4]) ?_ (by rw [AskW.rest, if_neg h1, if_neg h2, if_neg h3, if_neg (by omega)]) (fun W hW => wr_nothing _ (AskD.size hd))
    exact (decide_eq_true ⟨by omega, by omega, fun f => by omega, fun f => by omega⟩).symm
  by_cases h7 : a.op = 7 ∨ a.op = 8
  · refine fin (r := 28) (wr := 29) (decide (a.nm.length ≤ 255)) _ (by rw [kindOf, if_neg h1, if_neg h2, if_neg h3, if_neg h4, if_pos h7]) ?_ (by rw [AskW.rest, if_neg h1, if_neg h2, if_neg h3, if_pos h7]) (fun W hW => by have := wr_named (w := W) a.d hd (by have := h.nm; rw [a.d_nm]; omega); rwa [a.d_nm] at this)
    unfold AskW.may
    rw [Bool.eq_iff_iff]
    simp only [decide_eq_true_eq]
    exact ⟨fun f => ⟨by omega, by omega, fun f => by omega, fun _ => f⟩, fun f => f.2.2.2 (by omega)⟩
  have hm : a.may = false := decide_eq_false (fun f => by omega)
  rw [hm]
  refine (bytes_none a.d hd (by show kindOf a.op = none; rw [kindOf, if_neg h1, if_neg h2, if_neg h3, if_neg h4, if_neg h7])).mono ?_
  intro e w' hq
  exact ⟨hq.1, (fun f => by cases f), hq.2.2⟩
end

section
attribute [local go_sem] stPair gtPair gtK8 gtM6 run_store_func run_store_nilFunc
attribute [local go_sem high] neqPair eqK8 eqM6
attribute [local go_sem ↓] load_fold store_fold alloc_fold slice_op_fold con_load_fold chg_load_fold ten_zero_fold con_alloc_fold con_store_fold con_zero_fold chg_alloc_fold chg_store_fold chg_zero_fold chg_put_fold macLoad_fold macStore_fold keyLoad_fold keyStore_fold chg_make_fold chg_slice_fold askLoad_fold askStore_fold askAlloc_fold askBox_fold askZero_fold reqLoad_fold reqStore_fold reqAlloc_fold reqBox_fold reqZero_fold askPut_fold reqPut_fold
open Go.RowKit
set_option linter.unusedVariables false
theorem row_one {W : World} {b : Nat} {x : UInt8} (h : W.heap[b]? = some (.cells #[.int .u8 (x.toNat : Int)] 5 (0, 0))) : RowAt (fun _ => True) W (some ⟨b, 0, none⟩) (bcells [x]) := row_blk (S := fun _ => True) h trivial
set_option maxRecDepth 100000 in
set_option maxHeartbeats 6000000 in
theorem refBytes_no {w : World} (a : AskW) (h : a.Ok w) (hm : a.may = false) : Calls Tryz.prog 8 #[.agg a.d.cells.toArray] w (BytesQ false a.bytes w) := by
  have hd := AskW.dok h
  have hs := AskD.size hd
  obtain ⟨CA, hCA⟩ : ∃ CA, CA = a.d.cells.toArray := ⟨_, rfl⟩
  rw [← hCA] at hs
  rw [← hCA]
  have hbx := reqBox_new CA hs
  obtain ⟨W, hW⟩ : ∃ W, W = w.alloc (.cells CA 48) := ⟨_, rfl⟩
  have hat : reqAt W w.heap.size a.d := by rw [reqAt, ← hCA, hW]; exact at10 w _
  have hmW : Mod No w W := by rw [hW]; exact (Mod.refl _ _).alloc _
  obtain ⟨v1, w1, hr1, g1⟩ := gr_app (Gr.refl (nil_own W w.heap.size)) hmW.size a.key.l 8 8 rfl (S := fun _ => True) (A := some ⟨w.heap.size, 0, none⟩) (.inr ⟨w.heap.size, 0, rfl, trivial, fun j u hj => by
    have := (List.getElem?_eq_some_iff.1 hj).1
    rw [Nat.zero_add, reqAt_cell hat, AskD.atKey _ j (by simpa [K8.cells_len] using this)]
    exact hj⟩) (by simp [K8.l])
  have hat1 : reqAt w1 w.heap.size a.d := g1.no.obj hat id
  have c8 : w1.cell? ⟨w.heap.size, 8, none⟩ = some (.int .i64 a.op) := (reqAt_cell hat1 8).trans (AskD.at8 _)
  have c73 : w1.cell? ⟨w.heap.size, 73, none⟩ = some (.slice a.P a.l.length a.p) := (reqAt_cell hat1 73).trans ((AskD.atCon hd 28 (by decide)).trans rfl)
  have c74 : w1.cell? ⟨w.heap.size, 74, none⟩ = some (.string (str a.nm)) := (reqAt_cell hat1 74).trans (AskD.at74 hd)
  have hM := Lib.hid (hmW.trans g1.no)
  have hor : a.op < 1 ∨ 8 < a.op ∨ (a.op = 3 ∧ 0 < a.l.length) ∨ ((a.op = 7 ∨ a.op = 8) ∧ 255 < a.nm.length) := by
    have h0 : ¬ (1 ≤ a.op ∧ a.op ≤ 8 ∧ (a.op = 3 → a.l = []) ∧ (7 ≤ a.op → a.nm.length ≤ 255)) := of_decide_eq_false hm
    by_cases e1 : a.op < 1
    · exact .inl e1
    by_cases e2 : 8 < a.op
    · exact .inr (.inl e2)
    by_cases e3 : a.op = 3 ∧ 0 < a.l.length
    · exact .inr (.inr (.inl e3))
    refine .inr (.inr (.inr ?_))
    refine Classical.byContradiction fun f => h0 ⟨by omega, by omega, fun q => ?_, fun q => by omega⟩
    have : ¬ 0 < a.l.length := fun q' => e3 ⟨q, q'⟩
    exact List.eq_nil_of_length_eq_zero (by omega)
  obtain ⟨D, hD⟩ : ∃ D, D = a.bytes := ⟨_, rfl⟩
  rw [← hD]
  obtain ⟨op, hop⟩ : ∃ op, op = a.op := ⟨_, rfl⟩
  rw [← hop] at c8 hor
  obtain ⟨n, hn⟩ : ∃ n, n = a.l.length := ⟨_, rfl⟩
  rw [← hn] at c73 hor
  obtain ⟨nm, hnm⟩ : ∃ nm, nm = a.nm := ⟨_, rfl⟩
  rw [← hnm] at c74 hor
  obtain ⟨m, hmm⟩ : ∃ m, m = nm.length := ⟨_, rfl⟩
  have hsz : (str nm).size = m := by rw [str_size, hmm]
  rw [← hmm] at hor
  rw [hW] at hr1
  clear hs hCA hat hat1 g1 hmW hW hd hm hD hop hn hnm hmm h
  rcases hor with h1 | h1 | ⟨rfl, h1⟩ | ⟨h7, h1⟩
  · have q1 : decide (op < 1) = true := by simpa using h1
    go_enter Tryz.func8, Tryz.ntmps8
    go_wp2_with (at_builtin; refine Lib.wpList_append_run _ (by rfl) _ _ _ _ (by rfl) _ _ (by rfl) (by rfl) _ _ (hr1 _) ?_)
    go_ret2
    exact BytesQ.bad hM.out
  · have q1 : decide (op < 1) = false := by simp; omega
    have q2 : decide (8 < op) = true := by simpa using h1
    go_enter Tryz.func8, Tryz.ntmps8
    go_wp2_with (at_builtin; refine Lib.wpList_append_run _ (by rfl) _ _ _ _ (by rfl) _ _ (by rfl) (by rfl) _ _ (hr1 _) ?_)
    go_ret2
    exact BytesQ.bad hM.out
  · have q1 : decide ((0 : Int) < n) = true := by simpa using h1
    go_enter Tryz.func8, Tryz.ntmps8
    go_wp2_with (at_builtin; refine Lib.wpList_append_run _ (by rfl) _ _ _ _ (by rfl) _ _ (by rfl) (by rfl) _ _ (hr1 _) ?_)
    go_ret2
    exact BytesQ.bad hM.out
  · have q1 : decide ((255 : Int) < m) = true := by simp; omega
    rcases h7 with rfl | rfl
    all_goals
      go_enter Tryz.func8, Tryz.ntmps8
      go_wp2_with (at_builtin; refine Lib.wpList_append_run _ (by rfl) _ _ _ _ (by rfl) _ _ (by rfl) (by rfl) _ _ (hr1 _) ?_)
      go_ret2
      exact BytesQ.bad hM.out
/-- Where the writer stands when it has written the first nine bytes. -/
structure WV (w V : World) (a : AskW) (v : Value) : Prop where
  mod : Mod No w V
  req : reqAt V w.heap.size a.d
  own : Gr w.heap.size (.slice none 0 0) (w.alloc (.cells a.d.cells.toArray 48)) v V (a.key.l ++ [UInt8.ofNat (a.op % 256).toNat])
set_option maxRecDepth 100000 in
set_option maxHeartbeats 6000000 in
theorem refBytes_ok {w : World} (a : AskW) (h : a.Ok w) (hm : a.may = true) : Calls Tryz.prog 8 #[.agg a.d.cells.toArray] w (BytesQ true a.bytes w) := by
  have hd := AskW.dok h
  have hs := AskD.size hd
  obtain ⟨CA, hCA⟩ : ∃ CA, CA = a.d.cells.toArray := ⟨_, rfl⟩
  rw [← hCA] at hs
  have hbx := reqBox_new CA hs
  obtain ⟨W, hW⟩ : ∃ W, W = w.alloc (.cells CA 48) := ⟨_, rfl⟩
  have hat : reqAt W w.heap.size a.d := by rw [reqAt, ← hCA, hW]; exact at10 w _
  have hmW : Mod No w W := by rw [hW]; exact (Mod.refl _ _).alloc _
  obtain ⟨v1, w1, hr1, g1⟩ := gr_app (Gr.refl (nil_own W w.heap.size)) hmW.size a.key.l 8 8 rfl (S := fun _ => True) (A := some ⟨w.heap.size, 0, none⟩) (.inr ⟨w.heap.size, 0, rfl, trivial, fun j u hj => by
    have := (List.getElem?_eq_some_iff.1 hj).1
    rw [Nat.zero_add, reqAt_cell hat, AskD.atKey _ j (by simpa [K8.cells_len] using this)]
    exact hj⟩) (by simp [K8.l])
  have hat1 : reqAt w1 w.heap.size a.d := g1.no.obj hat id
  have c8 : w1.cell? ⟨w.heap.size, 8, none⟩ = some (.int .i64 a.op) := (reqAt_cell hat1 8).trans (AskD.at8 _)
  have c73 : w1.cell? ⟨w.heap.size, 73, none⟩ = some (.slice a.P a.l.length a.p) := (reqAt_cell hat1 73).trans ((AskD.atCon hd 28 (by decide)).trans rfl)
  have c74 : w1.cell? ⟨w.heap.size, 74, none⟩ = some (.string (str a.nm)) := (reqAt_cell hat1 74).trans (AskD.at74 hd)
  -- the Op's byte
  obtain ⟨w1', hw1'⟩ : ∃ w1', w1' = w1.alloc (.cells #[.int .u8 (((UInt8.ofNat (a.op % 256).toNat).toNat : Nat) : Int)] 5) := ⟨_, rfl⟩
  have hm1' : Mod No w1 w1' := by rw [hw1']; exact (Mod.refl _ _).alloc _
  obtain ⟨v2, w2, hr2, g2⟩ := gr_app (g1.ext hm1') (by have := hmW.size; have := g1.no.size; have := hm1'.size; omega) [UInt8.ofNat (a.op % 256).toNat] 1 1 rfl (row_one (b := w1.heap.size) (by rw [hw1']; exact at10 w1 _)) (by simp [K8.l])
  rw [hw1'] at hr2
  have hV : WV w w2 a v2 := ⟨hmW.trans g2.no, (g2.no.obj hat id), by rw [← hCA, ← hW]; simpa using g2⟩
  have d8 : w2.cell? ⟨w.heap.size, 8, none⟩ = some (.int .i64 a.op) := (reqAt_cell hV.req 8).trans (AskD.at8 _)
  have hmay : 1 ≤ a.op ∧ a.op ≤ 8 ∧ (a.op = 3 → a.l = []) ∧ (7 ≤ a.op → a.nm.length ≤ 255) := of_decide_eq_true hm
  have HV := Lib.hid hV
  have H := Lib.hid h
  have HMW := Lib.hid (hmW.trans g1.no)
  obtain ⟨ob, hob⟩ : ∃ ob : Int, ob = (((UInt8.ofNat (a.op % 256).toNat).toNat : Nat) : Int) := ⟨_, rfl⟩
  rw [← hob] at hr2
  rw [hW] at hr1
  rw [← hCA]
  have HFIN : Hid (∀ (L : List UInt8) (v : Value) (w' : World), a.rest = L → Gr w.heap.size v2 w2 v w' (a.key.l ++ [UInt8.ofNat (a.op % 256).toNat] ++ L) → BytesQ true a.bytes w (.returned (.tuple #[v, .int .i64 0])) w') := Lib.hid (fun L v w' hL g => by
    have gg := hV.own.trans g
    refine ⟨(show Mod No w _ from (Mod.refl _ _).alloc _).trans gg.no, (fun _ => ⟨v, rfl, ?_⟩), (fun f => by cases f)⟩
    have := gg.own
    rw [AskW.bytes, hL]
    simpa using this)
  have HB := Lib.hid (show w.heap.size ≤ w2.heap.size by have := hV.mod.size; exact this)
  clear hs hat hat1 g1 g2 hmW hm1' hw1' hd hm hCA hW hV h
  have hown2 := HV.out.own.own
  have hlen2 : (a.key.l ++ [UInt8.ofNat (a.op % 256).toNat]).length = 9 := rfl
  obtain ⟨K9, hK9⟩ : ∃ K9, K9 = a.key.l ++ [UInt8.ofNat (a.op % 256).toNat] := ⟨_, rfl⟩
  rw [← hK9] at HFIN hown2 hlen2
  have HO2 := Lib.hid (And.intro hown2 hlen2)
  clear hown2 hlen2 hK9
  obtain ⟨op, hop⟩ : ∃ op, op = a.op := ⟨_, rfl⟩
  rw [← hop] at c8 d8 hob hmay
  have hobk : ob = op % 256 := by rw [hob]; simp; omega
  clear hob
  obtain ⟨nm, hnm⟩ : ∃ nm, nm = a.nm := ⟨_, rfl⟩
  obtain ⟨m, hmm⟩ : ∃ m, m = a.nm.length := ⟨_, rfl⟩
  have hsz : (str nm).size = m := by rw [hnm, str_size, hmm]
  rw [← hnm] at c74
  obtain ⟨n, hn⟩ : ∃ n, n = a.l.length := ⟨_, rfl⟩
  rw [← hn] at c73
  have h8 : op = 1 ∨ op = 2 ∨ op = 3 ∨ (op = 4 ∨ op = 5 ∨ op = 6) ∨ (op = 7 ∨ op = 8) := by omega
  rcases h8 with rfl | rfl | rfl | h4 | h7
  · obtain rfl : ob = 1 := hobk
    have d9 : w2.cell? ⟨w.heap.size, 9, none⟩ = some (.int .u64 (a.ver : Int)) := (reqAt_cell HV.out.req 9).trans (AskD.at9 _)
    have HP := Lib.hid (put_ok HO2.out.1 HB.out (by rw [HO2.out.2]; decide) a.ver 8 (by decide))
    have HR := Lib.hid (show a.rest = be 8 a.ver by rw [AskW.rest, if_pos hop.symm])
    clear hop hmay hmm hnm hn
    go_enter Tryz.func8, Tryz.ntmps8
    go_wp2_with (first | (at_builtin; refine Lib.wpList_append_run _ (by rfl) _ _ _ _ (by rfl) _ _ (by rfl) (by rfl) _ _ (hr1 _) ?_) | (at_builtin; refine Lib.wpList_append_run _ (by rfl) _ _ _ _ (by rfl) _ _ (by rfl) (by rfl) _ _ (hr2 _) ?_) | (go_at_call 17; refine HP.out.mono ?_; rintro e w3 ⟨v3, rfl, g3⟩; have H3 := Lib.hid g3; clear g3) | fail)
    go_ret2
    exact HFIN.out _ _ _ HR.out H3.out
  · obtain rfl : ob = 2 := hobk
    have hld := reqAt_chgLoad HV.out.req (AskW.dok H.out)
    have h2 := H.out.at HV.out.mod
    have HC := Lib.hid (refChange_ok a.put a.cn a.x h2.rows h2.tok (by have := h2.tl; omega) (by have := h2.tl; omega) (by have := h2.cn; omega))
    obtain ⟨CC, hCC⟩ : ∃ CC, CC = cChg a.put a.cn a.x := ⟨_, rfl⟩
    rw [show a.d.chg.toArray = CC by rw [hCC]; simp [AskW.d]] at hld
    rw [← hCC] at HC
    have hR : a.rest = wchg a.put a.cn a.x.t := by rw [AskW.rest, if_neg (by omega), if_pos hop.symm]
    have hle := AskW.rest_le H.out
    rw [hR] at hle
    have HR := Lib.hid (And.intro hR hle)
    clear hop hmay hmm hnm hn hR hle h2 hCC
    go_enter Tryz.func8, Tryz.ntmps8
    go_wp2_with (first
      | (at_builtin; refine Lib.wpList_append_run _ (by rfl) _ _ _ _ (by rfl) _ _ (by rfl) (by rfl) _ _ (hr5 _) ?_)
      | (at_builtin; refine Lib.wpList_append_run _ (by rfl) _ _ _ _ (by rfl) _ _ (by rfl) (by rfl) _ _ (hr1 _) ?_) | (at_builtin; refine Lib.wpList_append_run _ (by rfl) _ _ _ _ (by rfl) _ _ (by rfl) (by rfl) _ _ (hr2 _) ?_)
      | (go_at_call 18; refine HC.out.mono ?_; rintro e w4 ⟨v4, rfl, ho4, hm4⟩; obtain ⟨A4, c4, rfl, hc4, hr4⟩ := OwnB.open ho4; obtain ⟨v5, w5, hr5, g5⟩ := gr_app ((Gr.refl HO2.out.1).ext hm4) (by have := HB.out; have := hm4.size; omega) (wchg a.put a.cn a.x.t) _ c4 rfl hr4 (by have := HR.out.2; have := HO2.out.2; omega); have H5 := Lib.hid g5; clear ho4 hm4 hc4 hr4 g5)
      | fail)
    go_ret2
    exact HFIN.out _ _ _ HR.out.1 H5.out
  · obtain rfl : ob = 3 := hobk
    have hl0 := hmay.2.2.1 rfl
    have hn0 : n = 0 := by rw [hn, hl0]; rfl
    subst hn0
    have hld := reqAt_conLoad HV.out.req (AskW.dok H.out)
    have h2 := H.out.at HV.out.mod
    have HC := Lib.hid (refConfig_ok a.c (.slice a.P a.l.length a.p) a.l h2.ip h2.dr ⟨_, _, rfl, h2.lrow⟩ (fun y hy => ⟨(h2.lok y hy).1, by have := (h2.lok y hy).2.2.1; omega, (h2.lok y hy).2.1⟩) (fun y hy => by have := (h2.lok y hy).2.2; omega) (by have := h2.ll; omega))
    obtain ⟨CC, hCC⟩ : ∃ CC, CC = a.c.cells (.slice a.P a.l.length a.p) := ⟨_, rfl⟩
    rw [show a.d.con.toArray = CC by rw [hCC]; simp [AskW.d]] at hld
    rw [← hCC] at HC
    have hR : a.rest = wcon a.c a.l := by rw [AskW.rest, if_neg (by omega), if_neg (by omega), if_pos hop.symm]
    have hle := AskW.rest_le H.out
    rw [hR] at hle
    have HR := Lib.hid (And.intro hR hle)
    clear hop hmay hmm hnm hn hR hle h2 hCC hl0
    go_enter Tryz.func8, Tryz.ntmps8
    go_wp2_with (first
      | (at_builtin; refine Lib.wpList_append_run _ (by rfl) _ _ _ _ (by rfl) _ _ (by rfl) (by rfl) _ _ (hr5 _) ?_)
      | (at_builtin; refine Lib.wpList_append_run _ (by rfl) _ _ _ _ (by rfl) _ _ (by rfl) (by rfl) _ _ (hr1 _) ?_) | (at_builtin; refine Lib.wpList_append_run _ (by rfl) _ _ _ _ (by rfl) _ _ (by rfl) (by rfl) _ _ (hr2 _) ?_)
      | (go_at_call 19; refine HC.out.mono ?_; rintro e w4 ⟨v4, rfl, ho4, hm4⟩; obtain ⟨A4, c4, rfl, hc4, hr4⟩ := OwnB.open ho4; obtain ⟨v5, w5, hr5, g5⟩ := gr_app ((Gr.refl HO2.out.1).ext hm4) (by have := HB.out; have := hm4.size; omega) (wcon a.c a.l) _ c4 rfl hr4 (by have := HR.out.2; have := HO2.out.2; omega); have H5 := Lib.hid g5; clear ho4 hm4 hc4 hr4 g5)
      | fail)
    go_ret2
    exact HFIN.out _ _ _ HR.out.1 H5.out
  · have HR := Lib.hid (show a.rest = [] by rw [AskW.rest, if_neg (by omega), if_neg (by omega), if_neg (by omega), if_neg (by omega)])
    clear hop hmay hmm hnm hn
    rcases h4 with rfl | rfl | rfl
    all_goals
      subst hobk
      go_enter Tryz.func8, Tryz.ntmps8
      go_wp2_with (first | (at_builtin; refine Lib.wpList_append_run _ (by rfl) _ _ _ _ (by rfl) _ _ (by rfl) (by rfl) _ _ (hr1 _) ?_) | (at_builtin; refine Lib.wpList_append_run _ (by rfl) _ _ _ _ (by rfl) _ _ (by rfl) (by rfl) _ _ (hr2 _) ?_) | fail)
      go_ret2
      exact HFIN.out [] _ _ HR.out (by simpa using Gr.refl HO2.out.1)
  · have hm255 : m ≤ 255 := by rw [hmm]; exact hmay.2.2.2 (by omega)
    have HR := Lib.hid (show a.rest = UInt8.ofNat nm.length :: nm by rw [AskW.rest, if_neg (by omega), if_neg (by omega), if_neg (by omega), if_pos (by omega), hnm])
    have q1 : ¬ (255 : Int) < m := by omega
    have d74 : w2.cell? ⟨w.heap.size, 74, none⟩ = some (.string (str nm)) := (reqAt_cell HV.out.req 74).trans ((AskD.at74 (AskW.dok H.out)).trans (by rw [hnm]; rfl))
    have hnl : nm.length = m := by rw [hmm, hnm]
    have hbm : bcells [UInt8.ofNat nm.length] = [.int .u8 (IntKind.u8.wrap (m : Int))] := by rw [hnl]; simp [bcells, IntKind.wrap, IntKind.bits, IntKind.signed]
    have hne : v2.ownBlock ≠ some w.heap.size := fun f => by
      rcases HV.out.own.row _ f with g | g
      · simp [Value.ownBlock] at g
      · simp at g; omega
    have hg0 : Gr w.heap.size v2 w2 v2 ((w2.alloc (.cells #[.int .u8 (IntKind.u8.wrap (m : Int))] 5)).drew) K9 := (Gr.refl HO2.out.1).ext ((Mod.refl _ _).alloc _).drew
    have hcs : ∀ j u, (bcells [UInt8.ofNat nm.length])[j]? = some u → ((w2.alloc (.cells #[.int .u8 (IntKind.u8.wrap (m : Int))] 5)).drew).cell? ((⟨w2.heap.size, 0, none⟩ : Addr).add j) = some u := fun j u hj => by
      rw [Addr.add_lit, Nat.zero_add, hbm] at *
      exact (blk_cell (show ((w2.alloc (.cells #[.int .u8 (IntKind.u8.wrap (m : Int))] 5)).drew).heap[w2.heap.size]? = some (.cells #[.int .u8 (IntKind.u8.wrap (m : Int))] 5 (0, 0)) from at10 w2 _) j).trans (by simpa using hj)
    have HX := Lib.hid (And.intro hnl (And.intro d74 (And.intro hne (And.intro hg0 hcs))))
    clear hne hg0 hcs
    clear hop hmay hmm hnm hn hbm hnl
    rcases h7 with rfl | rfl
    all_goals
      subst hobk
      go_enter Tryz.func8, Tryz.ntmps8
      go_upto_region 14 with (first | (at_builtin; refine Lib.wpList_append_run _ (by rfl) _ _ _ _ (by rfl) _ _ (by rfl) (by rfl) _ _ (hr1 _) ?_) | (at_builtin; refine Lib.wpList_append_run _ (by rfl) _ _ _ _ (by rfl) _ _ (by rfl) (by rfl) _ _ (hr2 _) ?_) | fail)
      go_region_held3 (fun W => W.cell? ⟨w.heap.size, 74, none⟩ = some (.string (str nm)))
        (first | go_keep | (exact H4.out.2) | (exact H3.out.2))
        ((first
          | (refine step_gr (by rfl) _ _ (by rfl) HX.out.2.2.2.1 (by rfl) [UInt8.ofNat nm.length] ⟨w2.heap.size, 0, none⟩ 1 1 (by rfl) rfl HX.out.2.2.2.2 (by have := HO2.out.2; simp; omega) (by simp) (by have := HB.out; simp; omega) ?_; intro v3 w3 g3 m3; have H3 := Lib.hid (And.intro g3 (show w3.cell? ⟨w.heap.size, 74, none⟩ = some (.string (str nm)) from m3.cell (((Mod.refl No w2).alloc _).drew.cell HX.out.2.1 id) HX.out.2.2.1)); clear g3 m3)
          | (refine step_gr_text (by rfl) _ _ (by rfl) H3.out.1 (by rfl) nm (by rfl) (by have := HO2.out.2; have := HX.out.1; simp; omega) (by have := HB.out; have := H3.out.1.mod.size; omega) ?_; intro v4 w4 g4 m4; have H4 := Lib.hid (And.intro g4 (show w4.cell? ⟨w.heap.size, 74, none⟩ = some (.string (str nm)) from m4.cell H3.out.2 (fun f => by rcases H3.out.1.row _ f with g | g; exact HX.out.2.2.1 g; have g' : w2.heap.size ≤ w.heap.size := g; have := lt_of_block HV.out.req; omega))); clear g4 m4)))
      go_wp2
      go_ret2
      exact HFIN.out _ _ _ HR.out (by have := H4.out.1; simpa using this)
end

section
attribute [local go_sem] stPair gtPair gtK8 gtM6 run_store_func run_store_nilFunc
attribute [local go_sem high] neqPair eqK8 eqM6
attribute [local go_sem ↓] load_fold store_fold alloc_fold slice_op_fold con_load_fold chg_load_fold ten_zero_fold con_alloc_fold con_store_fold con_zero_fold chg_alloc_fold chg_store_fold chg_zero_fold chg_put_fold macLoad_fold macStore_fold keyLoad_fold keyStore_fold chg_make_fold chg_slice_fold askLoad_fold askStore_fold askAlloc_fold askBox_fold askZero_fold reqLoad_fold reqStore_fold reqAlloc_fold reqBox_fold reqZero_fold askPut_fold reqPut_fold
open Go.RowKit
set_option linter.unusedVariables false
theorem slice_head' (n c k b o : Nat) (hk : k ≤ c) : ∀ W, (Instr.slice 40 (.slice (some ⟨b, o, none⟩) n c) none (some (.int .i64 (k : Int))) none).run Tryz.prog W = .ok (.slice (some ⟨b, o, none⟩) k c) W := by
  intro W
  have hz : (sizeOf 5).run Tryz.prog W = .ok 1 W := by kernel_rfl
  have he : Tryz.prog.elem 40 = 5 := by kernel_rfl
  rw [run_slice_h W 40 _ _ _ (by rw [he]; exact Tryz.underlying40) .i64 (k : Int) (by omega) (by omega), he, hz]
  simp only [Result.andThen, sliced, Int.toNat_natCast, Nat.zero_mul, Nat.sub_zero]
  split <;> first | rfl | (simp [Addr.add]; done)
def mkey (B : List UInt8) : K8 := K8.of (B.take 8)
def mop (B : List UInt8) : Nat := (B.getD 8 0).toNat
def mread (B : List UInt8) : MRes := if B.length < 9 then .none false else mrest (mop B) (B.drop 9)
/-- What a request that is read comes to. -/
def MReadQ (r : MRes) (key : K8) (op : Nat) (w : World) (e : Ending) (w' : World) : Prop :=
  Mod No w w' ∧ (r.ok = true → ∃ (x : TV) (Q : Option Addr) (q : Nat), e = .returned (.tuple #[.agg (r.ask key op x Q q).cells.toArray, .int .i64 0]) ∧ x.t = r.ct ∧ x.Rows (fun b => w.heap.size ≤ b) w') ∧
    (r.ok = false → e = .returned (.tuple #[.agg AskD.zero.cells.toArray, .int .i64 160]))
theorem MReadQ.bad {r : MRes} {key : K8} {op : Nat} {w w' : World} (hr : r.ok = false) (hm : Mod No w w') : MReadQ r key op w (.returned (.tuple #[.agg AskD.zero.cells.toArray, .int .i64 160])) w' :=
  ⟨hm, (fun f => by rw [hr] at f; cases f), (fun _ => rfl)⟩
theorem mkey_cells (B : List UInt8) (h9 : ¬ B.length < 9) : bcells (mkey B).l = (bcells B).take 8 := by
  have hl : (B.take 8).length = 8 := by rw [List.length_take]; omega
  have : (mkey B).l = B.take 8 := by
    unfold mkey
    obtain ⟨a0, a1, a2, a3, a4, a5, a6, a7, e⟩ : ∃ a0 a1 a2 a3 a4 a5 a6 a7, B.take 8 = [a0, a1, a2, a3, a4, a5, a6, a7] := by
      match B.take 8, hl with
      | [a0, a1, a2, a3, a4, a5, a6, a7], _ => exact ⟨a0, a1, a2, a3, a4, a5, a6, a7, rfl⟩
    rw [e]; rfl
  rw [this, bcells, bcells, List.map_take]
set_option maxRecDepth 100000 in
theorem mread_short {w : World} {A : Option Addr} {n c : Nat} (hn : n < 9) (r : MRes) (hr : r.ok = false) (key : K8) (op : Nat) :
    Calls Tryz.prog 10 #[.slice A n c] w (MReadQ r key op w) := by
  have hal := askAlloc_run
  have hz := askZero_run
  have hst := askStore_new w AskD.zero.cells.toArray (AskD.size AskD.zero_ok) (AskD.one AskD.zero_ok)
  obtain ⟨Z, hZ⟩ : ∃ Z, Z = AskD.zero.cells.toArray := ⟨_, rfl⟩
  have hZs : Z.size = 75 := by rw [hZ]; exact AskD.size AskD.zero_ok
  rw [← hZ] at hst hz
  have hal' : ∀ W : World, (askAlloc (.tuple #[])).run Tryz.prog W = .ok (.pointer (some ⟨W.heap.size, 0, none⟩)) (W.alloc (.cells Z 45)) := fun W => by rw [hZ]; exact hal W
  have p : (n : Int) < 9 := by omega
  have HZ := Lib.hid (And.intro hZ (And.intro hZs hr))
  clear hal hZ hZs hr hn
  go_enter Tryz.func10, Tryz.ntmps10
  go_wp2
  refine bodyPost_ret (results_cell_tmp rfl _ _ w.heap.size 45 Z (0, 0) _ rfl (at10 w _) Tryz.underlying45 rfl (by rw [askSize, HZ.out.2.1])) rfl ?_
  rw [HZ.out.1]
  exact MReadQ.bad HZ.out.2.2 ((Mod.refl _ _).alloc _)
set_option maxRecDepth 100000 in
set_option maxHeartbeats 1000000 in
theorem mread_ok {w : World} {A : Option Addr} {c : Nat} (B : List UInt8) (hrow : RowAt (fun b => b < w.heap.size) w A (bcells B)) (hc : B.length ≤ c) (hB : B.length ≤ 100000000) :
    Calls Tryz.prog 10 #[.slice A B.length c] w (MReadQ (mread B) (mkey B) (mop B) w) := by
  by_cases h9 : B.length < 9
  · exact mread_short h9 _ (by rw [mread, if_pos h9]; rfl) _ _
  obtain ⟨b, o, rfl, hbw, hblt, hcl⟩ := hrow.open (by intro e; have := congrArg List.length e; rw [bcells_length, List.length_nil] at this; omega)
  obtain ⟨x8, hx8⟩ : ∃ x, B[8]? = some x := ⟨_, List.getElem?_eq_getElem (by omega)⟩
  have hop : mop B = x8.toNat := by rw [mop, List.getD_eq_getElem?_getD, hx8]; rfl
  have hmr : mread B = mrest x8.toNat (B.drop 9) := by rw [mread, if_neg h9, hop]
  rw [hmr, hop]
  have c8 : w.cell? ⟨b, o + 8, none⟩ = some (.int .u8 (x8.toNat : Int)) := hcl 8 _ (by simp [bcells, hx8])
  have hk8 : bcells (mkey B).l = (bcells B).take 8 := mkey_cells B h9
  obtain ⟨key, hkey⟩ : ∃ key, key = mkey B := ⟨_, rfl⟩
  rw [← hkey] at hk8
  rw [← hkey]
  have hkl : ∀ W, Mod No w W → (keyLoad (.pointer (some ⟨b, o, none⟩))).run Tryz.prog W = .ok (.agg (bcells key.l).toArray) W := fun W hW =>
    keyLoad_mid W b o key (fun j v hj => hW.cell (hcl j v (by
      rw [hk8] at hj
      have := (List.getElem?_eq_some_iff.1 hj).1
      rw [List.length_take] at this
      rwa [List.getElem?_take_of_lt (by omega)] at hj)) id)
  obtain ⟨A9, sl9, rl9⟩ := own_tail B.length c 9 (some ⟨b, o, none⟩) (by omega) hc
  have sl8 := slice_head' B.length c 8 b o (by omega)
  have hrest : ∀ W T, Mod No w W → w.heap.size ≤ T → RowAt (fun b => b < W.heap.size ∧ b ≠ T) W A9 (bcells (B.drop 9)) := fun W T hW hT => by
    have h1 := (hrow.mono (S' := fun b => b < W.heap.size ∧ b ≠ T) (fun b _ hb => ⟨Nat.lt_of_lt_of_le hb hW.size, by omega⟩)).keeps (hW.keeps (fun _ _ _ f => f))
    have h2 := rl9 _ _ _ h1
    have e : ((bcells B).drop 9).take (B.length - 9) = bcells (B.drop 9) := by
      rw [bcells, bcells, List.map_drop, List.take_of_length_le (by simp)]
    rwa [e] at h2
  have hl9 : (B.drop 9).length = B.length - 9 := by simp
  obtain ⟨op, hopn⟩ : ∃ op, op = x8.toNat := ⟨_, rfl⟩
  have hop8 : op < 256 := by rw [hopn]; exact x8.toNat_lt
  rw [← hopn] at c8
  rw [← hopn]
  have HRD : Hid (∀ r wr, kindOf op = some (r, wr) → ∀ W T, askAt W T (askNew key op) → Mod No w W → w.heap.size ≤ T → Calls Tryz.prog r #[.pointer (some ⟨T, 0, none⟩), .slice A9 (B.length - 9) (c - 9)] W (RdC (mrest op (B.drop 9)) key op T W)) :=
    Lib.hid (fun r wr h W T hT hW hwT => by
      have := read_any h (B.drop 9) hT (hrest W T hW hwT) (by rw [hl9]; omega) (by rw [hl9]; omega) (c := c - 9)
      rwa [hl9] at this)
  have hmn := fun h => mrest_none (op := op) h (B.drop 9)
  obtain ⟨res, hres⟩ : ∃ res, res = mrest op (B.drop 9) := ⟨_, rfl⟩
  rw [← hres] at HRD hmn
  rw [← hres]
  obtain ⟨n, hn⟩ : ∃ n, n = B.length := ⟨_, rfl⟩
  rw [← hn] at HRD sl9 sl8 hc hB h9
  rw [← hn]
  have HK := Lib.hid (fun W => kinds_ok W op)
  have HKL := Lib.hid hkl
  have HMN := Lib.hid hmn
  have hal := askAlloc_run
  have hz := askZero_run
  have hpt := askPut_run key op
  have hcv : IntKind.i64.wrap (op : Int) = op := by simp [IntKind.wrap, IntKind.bits, IntKind.signed]; omega
  have p1 : ¬ (n : Int) < 9 := by omega
  have p2 : (8 : Int) < n := by omega
  clear hrow hcl hx8 hop hmr hk8 hkey hkl rl9 hrest hl9 hopn hres hn hmn
  obtain ⟨Z, hZ⟩ : ∃ Z, Z = AskD.zero.cells.toArray := ⟨_, rfl⟩
  have hal' : ∀ W : World, (askAlloc (.tuple #[])).run Tryz.prog W = .ok (.pointer (some ⟨W.heap.size, 0, none⟩)) (W.alloc (.cells Z 45)) := fun W => by rw [hZ]; exact hal W
  obtain ⟨N, hN⟩ : ∃ N, N = (askNew key op).cells.toArray := ⟨_, rfl⟩
  rw [← hZ] at hz
  have hpt' : ∀ W, (askPut (.agg (bcells key.l).toArray) (.int .i64 op)).run Tryz.prog W = .ok (.agg N) W := fun W => by rw [hN]; exact hpt W
  have hst : ∀ W : World, (askStore (.pointer (some ⟨W.heap.size, 0, none⟩)) (.agg N)).run Tryz.prog (W.alloc (.cells Z 45)) = .ok () (W.alloc (.cells N 45)) := fun W => by rw [hZ, hN]; exact askStore_new W _ (AskD.size (askNew_ok key op)) (AskD.one (askNew_ok key op))
  have hst2 : (askStore (.pointer (some ⟨w.heap.size + 1, 0, none⟩)) (.agg N)).run Tryz.prog ((w.alloc (.cells Z 45)).alloc (.cells Z 45)).drew = .ok () ((w.alloc (.cells Z 45)).alloc (.cells N 45)).drew := by
    have := askStore_newd (w.alloc (.cells Z 45)) N (by rw [hN]; exact AskD.size (askNew_ok key op)) (by rw [hN]; exact AskD.one (askNew_ok key op))
    rw [← hZ] at this
    simpa using this
  have HZ := Lib.hid (And.intro hZ hN)
  clear hal hpt hZ hN
  have sl9' : ∀ W, (Instr.slice 40 (.slice (some ⟨b, o, none⟩) n c) (some (.int .i64 9)) none none).run Tryz.prog W = .ok (.slice A9 (n - 9) (c - 9)) W := sl9
  have sl8' : ∀ W, (Instr.slice 40 (.slice (some ⟨b, o, none⟩) n c) none (some (.int .i64 8)) none).run Tryz.prog W = .ok (.slice (some ⟨b, o, none⟩) 8 c) W := sl8
  have hav : ∀ W, (Instr.arrayAt 22 (.slice (some ⟨b, o, none⟩) 8 c)).run Tryz.prog W = .ok (.pointer (some ⟨b, o, none⟩)) W := fun W => by kernel_rfl
  have C8 := Lib.hid c8
  obtain ⟨K, hK⟩ : ∃ K, K = (bcells key.l).toArray := ⟨_, rfl⟩
  rw [← hK] at hpt'
  rw [← hK] at HKL
  clear sl8 sl9 c8 hK
  go_enter Tryz.func10, Tryz.ntmps10
  go_upto_region 3 with fail
  go_region_held3 (fun W => (keyLoad (.pointer (some ⟨b, o, none⟩))).run Tryz.prog W = .ok (.agg K) W ∧ W.cell? ⟨b, o + 8, none⟩ = some (.int .u8 (op : Int)))
    ((refine ⟨HKL.out _ ?_, Mod.cell (F := No) ?_ C8.out id⟩ <;> (repeat (first | with_reducible exact Mod.refl _ _ | refine Mod.alloc ?_ _ | refine Mod.drew ?_))))
    (fail)
  all_goals
    go_upto_region 4 with fail
    refine grab_world fun W0 hW0 => ?_
    have hm0 : Mod No w W0 := by rw [hW0]; exact (((Mod.refl _ _).alloc _).alloc _).drew
    have hT0 : askAt W0 (w.heap.size + 1) (askNew key op) := by rw [hW0, askAt, ← HZ.out.2]; exact at21 w _ _
    have hX0 : W0.heap[w.heap.size]? = some (.cells Z 45 (0, 0)) := by rw [hW0]; exact at20 w _ _
    have c8' : W0.cell? ⟨w.heap.size + 1, 8, none⟩ = some (.int .i64 (op : Int)) := (askAt_cell hT0 8).trans (AskD.at8 _)
    have H0 := Lib.hid (And.intro hm0 (And.intro hT0 hX0))
    clear hW0 hm0 hT0 hX0
    cases hko : kindOf (op : Int) with
    | none =>
      have hkv : kindV (op : Int) = .tuple #[.agg #[.nilFunc, .nilFunc], .bool false] := by rw [kindV, hko]
      have hrn := HMN.out hko
      rw [hkv] at HK
      have HR := Lib.hid hrn
      clear hkv hko hrn HMN
      go_upto_region 5 with (first | (go_at_call 15; refine (HK.out _).mono ?_; rintro e w1 ⟨rfl, hm1⟩; have H1 := Lib.hid hm1; clear hm1) | fail)
      refine grab_world fun V hV => ?_
      have hmV : Mod No W0 V := by rw [hV]; exact H1.out.alloc _
      have hXV := hmV.obj H0.out.2.2 id
      have hst3 : ∀ q, (askStore (.pointer (some ⟨w.heap.size, 0, none⟩)) (.agg Z)).run Tryz.prog (V.drewN q) = .ok () ((V.drewN q).setRow w.heap.size Z) := fun q => askStore_run (W := V.drewN q) hXV (by rw [HZ.out.1]; exact AskD.size AskD.zero_ok) (by rw [HZ.out.1]; exact AskD.size AskD.zero_ok) (by rw [HZ.out.1]; exact AskD.one AskD.zero_ok)
      have HF := Lib.hid (And.intro hmV hXV)
      clear hV hmV hXV
      go_quiet (fail)
      go_wp2
      refine bodyPost_ret (results_cell_tmp rfl _ _ w.heap.size 45 Z (0, 0) _ rfl (setRow_heap _ _ _ _ _ _ HF.out.2) Tryz.underlying45 rfl (by rw [askSize, HZ.out.1, AskD.size AskD.zero_ok])) rfl ?_
      rw [HZ.out.1]
      exact MReadQ.bad (by rw [HR.out]; rfl) ((H0.out.1.trans (HF.out.1.drewN _)).trans' (setRow_mod _) (fun i hi hg => by omega))
    | some rw =>
      obtain ⟨r, wr⟩ := rw
      have hkv : kindV (op : Int) = .tuple #[.agg #[.func (.func r) #[] #[], .func (.func wr) #[] #[]], .bool true] := by rw [kindV, hko]; rfl
      rw [hkv] at HK
      have hen := (kind_enters hko).1
      have HRR := Lib.hid (HRD.out r wr hko)
      clear hkv hko HMN HRD
      go_upto_region 5 with (first | (go_at_call 15; refine (HK.out _).mono ?_; rintro e w1 ⟨rfl, hm1⟩; have H1 := Lib.hid hm1; clear hm1) | fail)
      refine grab_world fun V hV => ?_
      have hmV : Mod No W0 V := by rw [hV]; exact H1.out.alloc _
      have hXV := hmV.obj H0.out.2.2 id
      have hTV : askAt V (w.heap.size + 1) (askNew key op) := hmV.obj H0.out.2.1 id
      have ck : V.cell? ⟨w1.heap.size, 0, none⟩ = some (.func (.func r) #[] #[]) := by rw [hV]; exact (blk_cell (at10 w1 _) 0).trans rfl
      have hne : w1.heap.size ≠ w.heap.size + 1 := by have := lt_of_block H0.out.2.1; have := H1.out.size; omega
      have HF := Lib.hid (And.intro hmV (And.intro hXV hTV))
      have HN := Lib.hid (And.intro hne ck)
      clear hV hmV hXV hTV hne
      have hZ2 := AskD.size AskD.zero_ok
      have hZ3 := AskD.one AskD.zero_ok
      rw [← HZ.out.1] at hZ2 hZ3
      have HZZ := Lib.hid (And.intro hZ2 hZ3)
      clear hZ2 hZ3
      cases hro : res.ok with
      | false =>
        have HRO := Lib.hid hro
        clear hro
        go_region_held3 (fun W => W.cell? ⟨w1.heap.size, 0, none⟩ = some (.func (.func r) #[] #[])) (first | go_keep | (exact Mod.cell H2.out.1 HN.out.2 HN.out.1))
          ((refine (HRR.out V.drew _ ?_ ?_ ?_).mono ?_; (exact HF.out.2.2); (exact (H0.out.1.trans HF.out.1).drew); (simp); (intro e w2 hq; obtain ⟨hq1, hm2, hok⟩ := hq; rw [HRO.out] at hq1; subst hq1; have hX2 := hm2.obj (show V.drew.heap[w.heap.size]? = _ from HF.out.2.1) (by omega); have hst3 := askStore_run hX2 HZZ.out.1 HZZ.out.1 HZZ.out.2; have H2 := Lib.hid (And.intro hm2 hX2); clear hm2 hX2 hok)))
        go_wp2
        refine bodyPost_ret (results_cell_tmp rfl _ _ w.heap.size 45 Z (0, 0) _ rfl (setRow_heap _ _ _ _ _ _ H2.out.2) Tryz.underlying45 rfl (by rw [askSize, HZZ.out.1])) rfl ?_
        rw [HZ.out.1]
        exact MReadQ.bad HRO.out (((H0.out.1.trans HF.out.1).drew.trans' H2.out.1 (fun i hi hg => by omega)).trans' (setRow_mod _) (fun i hi hg => by omega))
      | true =>
        have HRO := Lib.hid hro
        clear hro
        go_region_held3 (fun W => W.cell? ⟨w1.heap.size, 0, none⟩ = some (.func (.func r) #[] #[])) (first | go_keep | (exact Mod.cell H2.out.1 HN.out.2 HN.out.1))
          ((refine (HRR.out V.drew _ ?_ ?_ ?_).mono ?_; (exact HF.out.2.2); (exact (H0.out.1.trans HF.out.1).drew); (simp); (intro e w2 hq; obtain ⟨hq1, hm2, hok⟩ := hq; obtain ⟨x, Q, q, hat, hxt, hxr⟩ := hok HRO.out; rw [HRO.out] at hq1; subst hq1; have hX2 := hm2.obj (show V.drew.heap[w.heap.size]? = _ from HF.out.2.1) (by omega); have hao := MRes.ask_ok res key op Q q hxr; obtain ⟨CA, hCA⟩ : ∃ CA, CA = (res.ask key op x Q q).cells.toArray := ⟨_, rfl⟩; have hs := AskD.size hao; have h1 := AskD.one hao; rw [← hCA] at hs h1; rw [askAt, ← hCA] at hat; have hld := askLoad_run hat hs; have hst3 := askStore_run hX2 HZZ.out.1 hs h1; have H2 := Lib.hid (And.intro hm2 (And.intro hX2 (And.intro hxt (And.intro hxr (And.intro hCA hs))))); clear hm2 hX2 hok hat hxt hxr hao hs h1 hCA)))
        go_wp2
        refine bodyPost_ret (results_cell_tmp rfl _ _ w.heap.size 45 CA (0, 0) _ rfl (setRow_heap _ _ _ _ _ _ H2.out.2.1) Tryz.underlying45 rfl (by rw [askSize, H2.out.2.2.2.2.2])) rfl ?_
        obtain ⟨hm2, hX2, hxt, hxr, hCA, hs⟩ := H2.out
        have hmV := (H0.out.1.trans HF.out.1).drew
        refine ⟨(hmV.trans' hm2 (fun i hi hg => by omega)).trans' (setRow_mod _) (fun i hi hg => by omega), (fun _ => ⟨x, Q, q, (by rw [hCA]; rfl), hxt, ?_⟩), (fun f => by rw [HRO.out] at f; cases f)⟩
        have hlt := lt_of_block HF.out.2.1
        refine ((hxr.imp (S' := fun b => b ≠ w.heap.size ∧ w.heap.size ≤ b) (fun b hb => ?_)).keeps ((setRow_mod _).keeps (fun b _ hb hg => hb.1 hg))).imp (fun b hb => hb.2)
        have : V.heap.size ≤ b := hb
        omega
end

section
attribute [local go_sem] stPair gtPair gtK8 gtM6 run_store_func run_store_nilFunc
attribute [local go_sem high] neqPair eqK8 eqM6
attribute [local go_sem ↓] load_fold store_fold alloc_fold slice_op_fold con_load_fold chg_load_fold ten_zero_fold con_alloc_fold con_store_fold con_zero_fold chg_alloc_fold chg_store_fold chg_zero_fold chg_put_fold macLoad_fold macStore_fold keyLoad_fold keyStore_fold chg_make_fold chg_slice_fold askLoad_fold askStore_fold askAlloc_fold askBox_fold askZero_fold reqLoad_fold reqStore_fold reqAlloc_fold reqBox_fold reqZero_fold askPut_fold reqPut_fold
open Go.RowKit
set_option linter.unusedVariables false
set_option linter.unusedSimpArgs false
set_option maxRecDepth 100000 in
theorem rread_short {w : World} {A : Option Addr} {n c : Nat} (hn : n < 9) (r : MRes) (hr : r.ok = false) (key : K8) (op : Nat) :
    Calls Tryz.prog 11 #[.slice A n c] w (MReadQ r key op w) := by
  have hal := reqAlloc_run
  have hz := reqZero_run
  have hst := reqStore_new w AskD.zero.cells.toArray (AskD.size AskD.zero_ok) (AskD.one AskD.zero_ok)
  obtain ⟨Z, hZ⟩ : ∃ Z, Z = AskD.zero.cells.toArray := ⟨_, rfl⟩
  have hZs : Z.size = 75 := by rw [hZ]; exact AskD.size AskD.zero_ok
  rw [← hZ] at hst hz
  have hal' : ∀ W : World, (reqAlloc (.tuple #[])).run Tryz.prog W = .ok (.pointer (some ⟨W.heap.size, 0, none⟩)) (W.alloc (.cells Z 48)) := fun W => by rw [hZ]; exact hal W
  have p : (n : Int) < 9 := by omega
  have HZ := Lib.hid (And.intro hZ (And.intro hZs hr))
  clear hal hZ hZs hr hn
  go_enter Tryz.func11, Tryz.ntmps11
  go_wp2
  refine bodyPost_ret (results_cell_tmp rfl _ _ w.heap.size 48 Z (0, 0) _ rfl (at10 w _) Tryz.underlying48 rfl (by rw [reqSize, HZ.out.2.1])) rfl ?_
  rw [HZ.out.1]
  exact MReadQ.bad HZ.out.2.2 ((Mod.refl _ _).alloc _)
/-- Where the reader stands when it looks at the Op. -/
structure RV (w V : World) (Z : Array Value) (key : K8) (op : Nat) : Prop where
  mod : Mod No w V
  res : V.heap[w.heap.size]? = some (.cells Z 48 (0, 0))
  req : reqAt V (w.heap.size + 1) (askNew key op)
set_option maxRecDepth 100000 in
set_option maxHeartbeats 1000000 in
theorem rread_ok {w : World} {A : Option Addr} {c : Nat} (B : List UInt8) (hrow : RowAt (fun b => b < w.heap.size) w A (bcells B)) (hc : B.length ≤ c) (hB : B.length ≤ 100000000) :
    Calls Tryz.prog 11 #[.slice A B.length c] w (MReadQ (mread B) (mkey B) (mop B) w) := by
  by_cases h9 : B.length < 9
  · exact rread_short h9 _ (by rw [mread, if_pos h9]; rfl) _ _
  obtain ⟨b, o, rfl, hbw, hblt, hcl⟩ := hrow.open (by intro e; have := congrArg List.length e; rw [bcells_length, List.length_nil] at this; omega)
  obtain ⟨x8, hx8⟩ : ∃ x, B[8]? = some x := ⟨_, List.getElem?_eq_getElem (by omega)⟩
  have hop : mop B = x8.toNat := by rw [mop, List.getD_eq_getElem?_getD, hx8]; rfl
  have hmr : mread B = mrest x8.toNat (B.drop 9) := by rw [mread, if_neg h9, hop]
  rw [hmr, hop]
  have c8 : w.cell? ⟨b, o + 8, none⟩ = some (.int .u8 (x8.toNat : Int)) := hcl 8 _ (by simp [bcells, hx8])
  have hk8 : bcells (mkey B).l = (bcells B).take 8 := mkey_cells B h9
  obtain ⟨key, hkey⟩ : ∃ key, key = mkey B := ⟨_, rfl⟩
  rw [← hkey] at hk8
  rw [← hkey]
  have hkl : ∀ j v, (bcells key.l)[j]? = some v → w.cell? ⟨b, o + j, none⟩ = some v := fun j v hj => hcl j v (by
      rw [hk8] at hj
      have := (List.getElem?_eq_some_iff.1 hj).1
      rw [List.length_take] at this
      rwa [List.getElem?_take_of_lt (by omega)] at hj)
  obtain ⟨A9, sl9, rl9⟩ := own_tail B.length c 9 (some ⟨b, o, none⟩) (by omega) hc
  have sl8 := slice_head' B.length c 8 b o (by omega)
  obtain ⟨X, hX⟩ : ∃ X, X = B.drop 9 := ⟨_, rfl⟩
  have hrest : RowAt (fun b => b < w.heap.size) w A9 (bcells X) := by
    have h2 := rl9 _ _ _ hrow
    have e : ((bcells B).drop 9).take (B.length - 9) = bcells X := by
      rw [hX, bcells, bcells, List.map_drop, List.take_of_length_le (by simp)]
    rwa [e] at h2
  have hl9 : B.length - 9 = X.length := by rw [hX]; simp
  rw [hl9] at sl9
  rw [← hX]
  obtain ⟨op, hopn⟩ : ∃ op, op = x8.toNat := ⟨_, rfl⟩
  have hop8 : op < 256 := by rw [hopn]; exact x8.toNat_lt
  rw [← hopn] at c8
  rw [← hopn]
  obtain ⟨res, hres⟩ : ∃ res, res = mrest op X := ⟨_, rfl⟩
  rw [← hres]
  obtain ⟨n, hn⟩ : ∃ n, n = B.length := ⟨_, rfl⟩
  rw [← hn] at sl9 sl8 hc hB h9 hl9
  rw [← hn]
  obtain ⟨m, hm⟩ : ∃ m, m = X.length := ⟨_, rfl⟩
  obtain ⟨c9, hc9⟩ : ∃ c9, c9 = c - 9 := ⟨_, rfl⟩
  rw [← hm, ← hc9] at sl9
  have hm8 : m ≤ 100000000 := by omega
  have hmc : m ≤ c9 := by omega
  have hal := reqAlloc_run
  have hz := reqZero_run
  have hpt := reqPut_run op
  have hcv : IntKind.i64.wrap (op : Int) = op := by simp [IntKind.wrap, IntKind.bits, IntKind.signed]; omega
  have p1 : ¬ (n : Int) < 9 := by omega
  have p2 : (8 : Int) < n := by omega
  obtain ⟨Z, hZ⟩ : ∃ Z, Z = AskD.zero.cells.toArray := ⟨_, rfl⟩
  have hal' : ∀ W : World, (reqAlloc (.tuple #[])).run Tryz.prog W = .ok (.pointer (some ⟨W.heap.size, 0, none⟩)) (W.alloc (.cells Z 48)) := fun W => by rw [hZ]; exact hal W
  obtain ⟨N, hN⟩ : ∃ N, N = (askNew .zero op).cells.toArray := ⟨_, rfl⟩
  rw [← hZ] at hz
  have hpt' : ∀ W, (reqPut (.int .i64 op)).run Tryz.prog W = .ok (.agg N) W := fun W => by rw [hN]; exact hpt W
  have hst2 : (reqStore (.pointer (some ⟨w.heap.size + 1, 0, none⟩)) (.agg N)).run Tryz.prog ((w.alloc (.cells Z 48)).alloc (.cells Z 48)) = .ok () ((w.alloc (.cells Z 48)).alloc (.cells N 48)) := by
    have := reqStore_new (w.alloc (.cells Z 48)) N (by rw [hN]; exact AskD.size (askNew_ok .zero op)) (by rw [hN]; exact AskD.one (askNew_ok .zero op))
    rw [← hZ] at this
    simpa using this
  have sl9' : ∀ W, (Instr.slice 40 (.slice (some ⟨b, o, none⟩) n c) (some (.int .i64 9)) none none).run Tryz.prog W = .ok (.slice A9 m c9) W := sl9
  have sl8' : ∀ W, (Instr.slice 40 (.slice (some ⟨b, o, none⟩) n c) none (some (.int .i64 8)) none).run Tryz.prog W = .ok (.slice (some ⟨b, o, none⟩) 8 c) W := sl8
  have hsz8 : (Tryz.prog.info? 5).map (·.size) = some 1 := by kernel_rfl
  have H0 := Lib.hid (And.intro hZ (And.intro hN (And.intro hkl (And.intro hrest (And.intro hres hm)))))
  have HS8 := Lib.hid hsz8
  clear hrow hcl hx8 hop hmr hk8 hkey hkl rl9 hrest hl9 hopn hres hn hm hal hZ hN hpt sl8 sl9 hX hc9 hsz8
  go_enter Tryz.func11, Tryz.ntmps11
  go_upto_region 4 with fail
  go_region_law ((refine step_copy_splice (by rfl) _ _ 40 40 (by rfl) 5 Tryz.underlying40 HS8.out (some ⟨w.heap.size + 1, 0, none⟩) (some ⟨b, o, none⟩) 8 8 8 c (by rfl) (by rfl) (w.heap.size + 1) 0 (askNew .zero op).cells 48 (by have := at21 w (.cells Z 48) (.cells N 48); rw [H0.out.2.1] at this ⊢; exact this) (bcells key.l) rfl (fun _ => ⟨rfl, _, rfl, fun j v hj => by rw [Addr.add_lit]; exact (((Mod.refl No w).alloc _).alloc _).drew.cell (H0.out.2.2.1 j v hj) id⟩) (by rw [AskD.len (askNew_ok _ _), K8.cells_len]; decide) (bcells_one _) (w.heap.size + 1) ((w.alloc (.cells Z 48)).alloc (.cells N 48)).drew (Below.refl _ _) (Nat.le_refl _) ?_; intro V hV hbl))
  have hb0 : RV w V Z key op := by
    have hm0 : Mod No w ((w.alloc (.cells Z 48)).alloc (.cells N 48)).drew := (((Mod.refl _ _).alloc _).alloc _).drew
    refine ⟨hm0.trans' (F := No) (G := fun b => w.heap.size + 1 ≤ b) ⟨hbl.os, hbl.tape, hbl.output, by have := hbl.size; simpa using this, fun k hk hf => hbl.block k (by omega)⟩ (fun i hi hg => by omega), ?_, ?_⟩
    · rw [hbl.block w.heap.size (by omega)]
      exact at20 w _ _
    · have := hV.out
      rw [AskD.setKey] at this
      exact this
  have c8' : V.cell? ⟨w.heap.size + 1, 8, none⟩ = some (.int .i64 (op : Int)) := (reqAt_cell hb0.req 8).trans (AskD.at8 _)
  have HV := Lib.hid hb0
  clear hV hbl hb0 hst2 hpt' hal' c8 sl8'
  go_upto_region 8 with fail
  have hZ2 := AskD.size AskD.zero_ok
  have hZ3 := AskD.one AskD.zero_ok
  rw [← H0.out.1] at hZ2 hZ3
  have HZZ := Lib.hid (And.intro hZ2 hZ3)
  have HBAD : Hid (∀ W', Mod No w W' → res.ok = false → MReadQ res key op w (.returned (.tuple #[.agg Z, .int .i64 160])) W') := Lib.hid (fun W' hW' hr => by rw [H0.out.1]; exact MReadQ.bad hr hW')
  have HFIN : Hid (∀ (W' : World) (a : AskD) (CA : Array Value) (x : TV) (Q : Option Addr) (q : Nat), W'.heap[w.heap.size]? = some (.cells Z 48 (0, 0)) → reqAt W' (w.heap.size + 1) a → a = res.ask key op x Q q → res.ok = true → Mod No w W' → x.t = res.ct → x.Rows (fun b => w.heap.size < b) W' → CA = a.cells.toArray →
      (reqLoad (.pointer (some ⟨w.heap.size + 1, 0, none⟩))).run Tryz.prog W' = .ok (.agg CA) W' ∧ (reqStore (.pointer (some ⟨w.heap.size, 0, none⟩)) (.agg CA)).run Tryz.prog W' = .ok () (W'.setRow w.heap.size CA) ∧ (W'.setRow w.heap.size CA).heap[w.heap.size]? = some (.cells CA 48 (0, 0)) ∧ CA.size = 75 ∧ MReadQ res key op w (.returned (.tuple #[.agg CA, .int .i64 0])) (W'.setRow w.heap.size CA)) :=
    Lib.hid (fun W' a CA x Q q h1 h2 h3 hok h4 h5 h6 h7 => by
      have hao := MRes.ask_ok res key op Q q h6
      rw [← h3] at hao
      have hs := AskD.size hao
      have h1c := AskD.one hao
      rw [reqAt, ← h7] at h2
      rw [← h7] at hs h1c
      refine ⟨reqLoad_run h2 hs, reqStore_run h1 HZZ.out.1 hs h1c, setRow_heap _ _ _ _ _ _ h1, hs, h4.trans' (setRow_mod _) (fun i hi hg => by omega), (fun _ => ⟨x, Q, q, by rw [h7, h3], h5, ?_⟩), (fun f => by rw [hok] at f; cases f)⟩
      exact ((h6.imp (S' := fun b => b ≠ w.heap.size ∧ w.heap.size ≤ b) (fun b hb => ⟨by omega, by omega⟩)).keeps ((setRow_mod _).keeps (fun b _ hb hg => hb.1 hg))).imp (fun b hb => hb.2))
  have hstb : (reqStore (.pointer (some ⟨w.heap.size, 0, none⟩)) (.agg Z)).run Tryz.prog V = .ok () (V.setRow w.heap.size Z) := reqStore_run HV.out.res HZZ.out.1 HZZ.out.1 HZZ.out.2
  clear hZ2 hZ3
  have HSTB := Lib.hid hstb
  clear hstb
  have q0 : (0 : Int) ≤ op := by omega
  by_cases o4 : op = 4 ∨ op = 5 ∨ op = 6
  · have hres : res = .none (decide (X = [])) := by
      rw [H0.out.2.2.2.2.1]
      unfold mrest
      rw [if_neg (by omega), if_neg (by omega), if_neg (by omega), if_pos o4]
    by_cases hX : X = []
    · have hm0 : m = 0 := by rw [H0.out.2.2.2.2.2, hX]; rfl
      rw [decide_eq_true hX] at hres
      obtain ⟨CA, hCA⟩ : ∃ CA, CA = (askNew key op).cells.toArray := ⟨_, rfl⟩
      have hF := HFIN.out V (askNew key op) CA TV.zero none 0 HV.out.res HV.out.req (by rw [hres]; exact askNew_eq key op true) (by rw [hres]; rfl) HV.out.mod (by rw [hres]; rfl) (TV.zero_rows _ _) hCA
      obtain ⟨f1, f2, f3, f4, f5⟩ := hF
      have HF := Lib.hid (And.intro f3 (And.intro f4 f5))
      subst hm0
      clear hCA f3 f4 f5 hres hX HFIN HBAD
      rcases o4 with rfl | rfl | rfl
      all_goals
        go_wp2
        refine bodyPost_ret (results_cell_tmp rfl _ _ w.heap.size 48 CA (0, 0) _ rfl HF.out.1 Tryz.underlying48 rfl (by rw [reqSize, HF.out.2.1])) rfl ?_
        exact HF.out.2.2
    · have hm0 : ((m : Int) == 0) = false := by
        rw [beq_eq_false_iff_ne, H0.out.2.2.2.2.2]
        intro f
        exact hX (List.eq_nil_of_length_eq_zero (by omega))
      rw [decide_eq_false hX] at hres
      have HR := Lib.hid (show res.ok = false by rw [hres]; rfl)
      have hstb := HSTB.out
      clear hres hX HFIN
      rcases o4 with rfl | rfl | rfl
      all_goals
        go_wp2
        refine bodyPost_ret (results_cell_tmp rfl _ _ w.heap.size 48 Z (0, 0) _ rfl (setRow_heap _ _ _ _ _ _ HV.out.res) Tryz.underlying48 rfl (by rw [reqSize, HZZ.out.1])) rfl ?_
        exact HBAD.out _ (HV.out.mod.trans' (setRow_mod _) (fun i hi hg => by omega)) HR.out
  by_cases o1 : op = 1
  · subst o1
    have hres : res = if X.length = 8 then { MRes.none true with ver := beval X } else .none false := by
      rw [H0.out.2.2.2.2.1]; rfl
    by_cases h8 : m = 8
    · have hX8 : X.length = 8 := by rw [← H0.out.2.2.2.2.2]; exact h8
      rw [if_pos hX8] at hres
      obtain ⟨ver, hver⟩ : ∃ ver, ver = vfold X := ⟨_, rfl⟩
      have hgt := get_ok (w := V) (c := c9) X (H0.out.2.2.2.1.keeps (HV.out.mod.keeps (fun _ _ _ f => f))) (by omega)
      rw [hX8, ← hver] at hgt
      rw [vfold_beval X (by omega)] at hver
      rw [← hver] at hres
      have c9v : V.cell? ⟨w.heap.size + 1, 9, none⟩ = some (.int .u64 (0 : Int)) := (reqAt_cell HV.out.req 9).trans (AskD.at9 _)
      have f9 := blk_free HV.out.req 9
      obtain ⟨CA, hCA⟩ : ∃ CA, CA = ({ askNew key 1 with ver := ver } : AskD).cells.toArray := ⟨_, rfl⟩
      have hmf : Mod (fun b => b = w.heap.size + 1) V (V.setCell ⟨w.heap.size + 1, 9, none⟩ (.int .u64 (ver : Int))) := Mod.setCell (F := fun b => b = w.heap.size + 1) (p := ⟨w.heap.size + 1, 9, none⟩) (Mod.refl _ _) (.inr rfl) _
      have hreq : reqAt (V.setCell ⟨w.heap.size + 1, 9, none⟩ (.int .u64 (ver : Int))) (w.heap.size + 1) { askNew key 1 with ver := ver } := by
        have hs := AskD.setVer (askNew key 1) ver
        rw [reqAt, heap_setCell_row HV.out.req]
        simp only [List.setIfInBounds_toArray]
        rw [hs]
      have hF := HFIN.out _ _ CA TV.zero none 0 (hmf.obj HV.out.res (by omega)) hreq (by rw [hres]; exact askVer_eq key 1 ver) (by rw [hres]; rfl) (HV.out.mod.trans' hmf (fun i hi hg => by omega)) (by rw [hres]; rfl) (TV.zero_rows _ _) hCA
      obtain ⟨f1, f2, f3, f4, f5⟩ := hF
      have HF := Lib.hid (And.intro f3 (And.intro f4 f5))
      have HG := Lib.hid hgt
      subst h8
      clear hCA f3 f4 f5 hres hX8 HFIN HBAD hgt hver hreq hmf
      go_wp2_with (first | (go_at_call 20; refine HG.out.mono ?_; rintro e w2 ⟨rfl, rfl⟩) | fail)
      refine bodyPost_ret (results_cell_tmp rfl _ _ w.heap.size 48 CA (0, 0) _ rfl HF.out.1 Tryz.underlying48 rfl (by rw [reqSize, HF.out.2.1])) rfl ?_
      exact HF.out.2.2
    · have hm0 : ((m : Int) == 8) = false := by rw [beq_eq_false_iff_ne]; omega
      rw [if_neg (by rw [← H0.out.2.2.2.2.2]; exact h8)] at hres
      have HR := Lib.hid (show res.ok = false by rw [hres]; rfl)
      have hstb := HSTB.out
      clear hres HFIN
      go_wp2
      refine bodyPost_ret (results_cell_tmp rfl _ _ w.heap.size 48 Z (0, 0) _ rfl (setRow_heap _ _ _ _ _ _ HV.out.res) Tryz.underlying48 rfl (by rw [reqSize, HZZ.out.1])) rfl ?_
      exact HBAD.out _ (HV.out.mod.trans' (setRow_mod _) (fun i hi hg => by omega)) HR.out
  by_cases o2 : op = 2
  · subst o2
    have hkv : Keeps (fun b => b < w.heap.size) w V := HV.out.mod.keeps (fun _ _ _ f => f)
    obtain ⟨put, name, t, ce, hq⟩ : ∃ put name t ce, ocg X = (put, name, t, ce) := ⟨_, _, _, _, rfl⟩
    have hres : res = if ce = 0 then ⟨true, 0, put, name, t, .zero, []⟩ else .none false := by
      rw [H0.out.2.2.2.2.1]
      show mchg X = _
      rw [mchg, hq]
    have HC := Lib.hid (chg_q (refOpenChange_ok (w := V) (c := c9) X ((H0.out.2.2.2.1.keeps hkv).mono (S' := fun b => b < V.heap.size) (fun b hb _ => hb)) (by have := H0.out.2.2.2.2.2; omega) (by have := H0.out.2.2.2.2.2; omega)) hq)
    rw [← H0.out.2.2.2.2.2] at HC
    have hca := chgAlloc_run
    clear hq hkv
    by_cases hce : ce = 0
    · rw [if_pos hce] at hres
      have p0 : ((ce : Int) == 0) = true := by rw [beq_iff_eq]; omega
      have HRES := Lib.hid hres
      clear hres hce
      go_upto_region 27 with (first
        | (go_at_call 21; refine HC.out.mono ?_; rintro e w1 ⟨C1, x, rfl, a1, a2, a3, a4, a5, a6⟩
           have hst := chgStore_nw w1 C1 a5 a6
           have hld := chgLoad_run (at10 w1 (.cells C1 33)) a5
           have hma : Mod No w1 (w1.alloc (.cells C1 33)) := (Mod.refl _ _).alloc _
           obtain ⟨W1, hst2, hat2, hmt⟩ := reqAt_chg (hma.obj (a4.obj HV.out.req id) id) (askNew_ok key 2) C1 a5 a6
           have HN := Lib.hid (And.intro a1 (And.intro a2 (And.intro a3 (And.intro (a4.trans hma) (And.intro hat2 hmt))))); clear a1 a2 a3 a4 a5 a6 hma hat2 hmt)
        | fail)
      obtain ⟨a1, a2, a3, a4, hat2, hmt⟩ := HN.out
      obtain ⟨CA, hCA⟩ : ∃ CA, CA = ({ askNew key 2 with chg := C1.toList } : AskD).cells.toArray := ⟨_, rfl⟩
      have hVs := lt_of_block HV.out.req
      have hF := HFIN.out W1 _ CA x none 0 (hmt.obj (a4.obj HV.out.res id) (by omega)) hat2 (by rw [HRES.out, a1]; exact askChg_eq key 2 put name t x) (by rw [HRES.out]) ((HV.out.mod.trans a4).trans' hmt (fun i hi hg => by omega)) (by rw [HRES.out]; exact a2) (((a3.keeps (((Mod.refl No w1).alloc _).keeps (fun _ _ _ f => f))).keeps (hmt.keeps (fun b _ hb hg => by subst hg; omega))).imp (fun b hb => by omega)) hCA
      obtain ⟨f1, f2, f3, f4, f5⟩ := hF
      have HF := Lib.hid (And.intro f3 (And.intro f4 f5))
      clear hCA f3 f4 f5 HFIN HBAD a1 a2 a3 a4 hat2 hmt
      go_wp2
      refine bodyPost_ret (results_cell_tmp rfl _ _ w.heap.size 48 CA (0, 0) _ rfl HF.out.1 Tryz.underlying48 rfl (by rw [reqSize, HF.out.2.1])) rfl ?_
      exact HF.out.2.2
    · rw [if_neg hce] at hres
      have p0 : ((ce : Int) == 0) = false := by rw [beq_eq_false_iff_ne]; omega
      have HR := Lib.hid (show res.ok = false by rw [hres]; rfl)
      clear hres hce
      go_upto_region 27 with (first
        | (go_at_call 21; refine HC.out.mono ?_; rintro e w1 ⟨C1, x, rfl, a1, a2, a3, a4, a5, a6⟩
           have hst := chgStore_nw w1 C1 a5 a6
           have hld := chgLoad_run (at10 w1 (.cells C1 33)) a5
           have hma : Mod No w1 (w1.alloc (.cells C1 33)) := (Mod.refl _ _).alloc _
           obtain ⟨W1, hst2, hat2, hmt⟩ := reqAt_chg (hma.obj (a4.obj HV.out.req id) id) (askNew_ok key 2) C1 a5 a6
           have HN := Lib.hid (And.intro (a4.trans hma) hmt); clear a1 a2 a3 a4 a5 a6 hma hat2 hmt)
        | fail)
      have hx1 := HN.out.2.obj (HN.out.1.obj HV.out.res id) (by omega)
      have hstb := reqStore_run hx1 HZZ.out.1 HZZ.out.1 HZZ.out.2
      have hmw := (HV.out.mod.trans HN.out.1).trans' HN.out.2 (fun i hi hg => by omega)
      have HX := Lib.hid (And.intro hx1 hmw)
      clear hx1 hmw HFIN
      go_wp2
      refine bodyPost_ret (results_cell_tmp rfl _ _ w.heap.size 48 Z (0, 0) _ rfl (setRow_heap _ _ _ _ _ _ HX.out.1) Tryz.underlying48 rfl (by rw [reqSize, HZZ.out.1])) rfl ?_
      exact HBAD.out _ (HX.out.2.trans' (setRow_mod _) (fun i hi hg => by omega)) HR.out
  by_cases o3 : op = 3
  · subst o3
    have hkv : Keeps (fun b => b < w.heap.size) w V := HV.out.mod.keeps (fun _ _ _ f => f)
    obtain ⟨cc, lt, ce, hq⟩ : ∃ cc lt ce, ocf X = (cc, lt, ce) := ⟨_, _, _, rfl⟩
    have hres : res = if ce = 0 ∧ lt = [] then { MRes.none true with cc := cc } else .none false := by
      rw [H0.out.2.2.2.2.1]
      show mcon X = _
      rw [mcon, hq]
    have HC := Lib.hid (con_q (refOpenConfig_ok (w := V) (c := c9) X ((H0.out.2.2.2.1.keeps hkv).mono (S' := fun b => b < V.heap.size) (fun b hb _ => hb)) (by have := H0.out.2.2.2.2.2; omega) (by have := H0.out.2.2.2.2.2; omega)) hq)
    rw [← H0.out.2.2.2.2.2] at HC
    have hca := conAlloc_run
    obtain ⟨k, hk⟩ : ∃ k, k = lt.length := ⟨_, rfl⟩
    obtain ⟨bb, hbb⟩ : ∃ bb, bb = decide (lt = []) := ⟨_, rfl⟩
    have pk : ((k : Int) == 0) = bb := by rw [hbb, hk, Bool.eq_iff_iff]; simp
    have HK := Lib.hid (And.intro hk hbb)
    have h07 : ce = 0 ∨ ce = 70 := by
      unfold ocf at hq
      split at hq <;> (simp only [Prod.mk.injEq] at hq; omega)
    clear hq hkv hk hbb
    by_cases hce : ce = 0
    · have p0 : ((ce : Int) == 0) = true := by rw [beq_iff_eq]; omega
      have HRES := Lib.hid hres
      clear hres h07
      go_upto_region 17 with (first
        | (go_at_call 22; refine HC.out.mono ?_; rintro e w1 ⟨C1, Q, q, l, rfl, a1, a2, a3, a4, a5, a6⟩
           have hst := conStore_nw w1 C1 a5 a6
           have HN := Lib.hid (And.intro a1 (And.intro a4 (And.intro a5 a6))); clear a1 a2 a3 a4 a5 a6)
        | fail)
      refine grab_world fun V1 hV1 => ?_
      have hma : Mod No w1 V1 := by rw [hV1]; exact (Mod.refl _ _).alloc _
      have hb1 : V1.heap[w1.heap.size]? = some (.cells C1 36 (0, 0)) := by rw [hV1]; exact at10 w1 _
      have hld := conLoad_run hb1 HN.out.2.2.1
      have c28 : V1.cell? ⟨w1.heap.size, 28, none⟩ = some (.slice Q k q) := by rw [blk_cell hb1, HN.out.1, HK.out.1]; rfl
      obtain ⟨W1, hst2, hat2, hmt⟩ := reqAt_con (W := V1.drew) (hma.drew.obj (HN.out.2.1.obj HV.out.req id) id) (askNew_ok key 3) C1 HN.out.2.2.1 HN.out.2.2.2
      have hld' : (conLoad (.pointer (some ⟨w1.heap.size, 0, none⟩))).run Tryz.prog V1.drew = .ok (.agg C1) V1.drew := conLoad_run (W := V1.drew) hb1 HN.out.2.2.1
      have hne : w1.heap.size ≠ w.heap.size + 1 := by have := lt_of_block (HN.out.2.1.obj HV.out.req id); omega
      have hb2 := hmt.obj (show V1.drew.heap[w1.heap.size]? = some (.cells C1 36 (0, 0)) from hb1) hne
      have hld2 := conLoad_run hb2 HN.out.2.2.1
      have c28' : W1.cell? ⟨w1.heap.size, 28, none⟩ = some (.slice Q k q) := by rw [blk_cell hb2, HN.out.1, HK.out.1]; rfl
      have hx1 := hmt.obj (hma.drew.obj (HN.out.2.1.obj HV.out.res id) id) (by omega)
      have hmw := ((HV.out.mod.trans HN.out.2.1).trans hma.drew).trans' hmt (fun i hi hg => by omega)
      have H1 := Lib.hid (And.intro hat2 (And.intro hx1 hmw))
      have HL := Lib.hid (show ((conLoad (.pointer (some ⟨w1.heap.size, 0, none⟩))).run Tryz.prog V1.drew = .ok (.agg C1) V1.drew ∧ V1.drew.cell? ⟨w1.heap.size, 28, none⟩ = some (.slice Q k q)) from ⟨hld', c28⟩)
      have HL1 := Lib.hid (And.intro hld2 c28')
      clear hV1 hma hb1 hld hat2 hmt hld' hb2 hld2 c28' hx1 hmw hne
      go_region_held3 (fun W => (conLoad (.pointer (some ⟨w1.heap.size, 0, none⟩))).run Tryz.prog W = .ok (.agg C1) W ∧ W.cell? ⟨w1.heap.size, 28, none⟩ = some (.slice Q k q))
        (first | (exact HL.out) | (exact HL1.out))
        (fail)
      cases bb with
      | false =>
        have hlt : ¬ lt = [] := by have := HK.out.2; intro f; rw [decide_eq_true f] at this; cases this
        have HR := Lib.hid (show res.ok = false by rw [HRES.out, if_neg (fun f => hlt f.2)]; rfl)
        have hstb := reqStore_run H1.out.2.1 HZZ.out.1 HZZ.out.1 HZZ.out.2
        clear HFIN hlt
        go_wp2
        refine bodyPost_ret (results_cell_tmp rfl _ _ w.heap.size 48 Z (0, 0) _ rfl (setRow_heap _ _ _ _ _ _ H1.out.2.1) Tryz.underlying48 rfl (by rw [reqSize, HZZ.out.1])) rfl ?_
        exact HBAD.out _ (H1.out.2.2.trans' (setRow_mod _) (fun i hi hg => by omega)) HR.out
      | true =>
        have hlt : lt = [] := by have := HK.out.2; exact of_decide_eq_true this.symm
        obtain ⟨CA, hCA⟩ : ∃ CA, CA = ({ askNew key 3 with con := C1.toList } : AskD).cells.toArray := ⟨_, rfl⟩
        have hk0 : C1 = cc.cells (.slice Q 0 q) := by rw [HN.out.1, hlt]; rfl
        have hF := HFIN.out W1 _ CA TV.zero Q q H1.out.2.1 H1.out.1 (by rw [HRES.out, if_pos ⟨hce, hlt⟩, hk0]; exact askCon_eq key 3 cc Q q) (by rw [HRES.out, if_pos ⟨hce, hlt⟩]; rfl) H1.out.2.2 (by rw [HRES.out, if_pos ⟨hce, hlt⟩]; rfl) (TV.zero_rows _ _) hCA
        obtain ⟨f1, f2, f3, f4, f5⟩ := hF
        have HF := Lib.hid (And.intro f3 (And.intro f4 f5))
        clear hCA f3 f4 f5 HFIN HBAD hlt hk0
        go_wp2
        refine bodyPost_ret (results_cell_tmp rfl _ _ w.heap.size 48 CA (0, 0) _ rfl HF.out.1 Tryz.underlying48 rfl (by rw [reqSize, HF.out.2.1])) rfl ?_
        exact HF.out.2.2
    · obtain rfl : ce = 70 := by omega
      have HR := Lib.hid (show res.ok = false by rw [hres, if_neg (fun f => hce f.1)]; rfl)
      clear hres hce HFIN h07
      go_upto_region 17 with (first
        | (go_at_call 22; refine HC.out.mono ?_; rintro e w1 ⟨C1, Q, q, l, rfl, a1, a2, a3, a4, a5, a6⟩
           have hst := conStore_nw w1 C1 a5 a6
           have HN := Lib.hid (And.intro a1 (And.intro a4 (And.intro a5 a6))); clear a1 a2 a3 a4 a5 a6)
        | fail)
      refine grab_world fun V1 hV1 => ?_
      have hma : Mod No w1 V1 := by rw [hV1]; exact (Mod.refl _ _).alloc _
      have hb1 : V1.heap[w1.heap.size]? = some (.cells C1 36 (0, 0)) := by rw [hV1]; exact at10 w1 _
      have hld := conLoad_run hb1 HN.out.2.2.1
      have c28 : V1.cell? ⟨w1.heap.size, 28, none⟩ = some (.slice Q k q) := by rw [blk_cell hb1, HN.out.1, HK.out.1]; rfl
      obtain ⟨W1, hst2, hat2, hmt⟩ := reqAt_con (W := V1.drew) (hma.drew.obj (HN.out.2.1.obj HV.out.req id) id) (askNew_ok key 3) C1 HN.out.2.2.1 HN.out.2.2.2
      have hld' : (conLoad (.pointer (some ⟨w1.heap.size, 0, none⟩))).run Tryz.prog V1.drew = .ok (.agg C1) V1.drew := conLoad_run (W := V1.drew) hb1 HN.out.2.2.1
      have hne : w1.heap.size ≠ w.heap.size + 1 := by have := lt_of_block (HN.out.2.1.obj HV.out.req id); omega
      have hb2 := hmt.obj (show V1.drew.heap[w1.heap.size]? = some (.cells C1 36 (0, 0)) from hb1) hne
      have hld2 := conLoad_run hb2 HN.out.2.2.1
      have c28' : W1.cell? ⟨w1.heap.size, 28, none⟩ = some (.slice Q k q) := by rw [blk_cell hb2, HN.out.1, HK.out.1]; rfl
      have hx1 := hmt.obj (hma.drew.obj (HN.out.2.1.obj HV.out.res id) id) (by omega)
      have hmw := ((HV.out.mod.trans HN.out.2.1).trans hma.drew).trans' hmt (fun i hi hg => by omega)
      have H1 := Lib.hid (And.intro hat2 (And.intro hx1 hmw))
      have HL := Lib.hid (show ((conLoad (.pointer (some ⟨w1.heap.size, 0, none⟩))).run Tryz.prog V1.drew = .ok (.agg C1) V1.drew ∧ V1.drew.cell? ⟨w1.heap.size, 28, none⟩ = some (.slice Q k q)) from ⟨hld', c28⟩)
      have HL1 := Lib.hid (And.intro hld2 c28')
      clear hV1 hma hb1 hld hat2 hmt hld' hb2 hld2 c28' hx1 hmw hne
      have hl2 := HL.out.1
      go_region
      all_goals
        have hstb := reqStore_run H1.out.2.1 HZZ.out.1 HZZ.out.1 HZZ.out.2
        go_wp2
        refine bodyPost_ret (results_cell_tmp rfl _ _ w.heap.size 48 Z (0, 0) _ rfl (setRow_heap _ _ _ _ _ _ H1.out.2.1) Tryz.underlying48 rfl (by rw [reqSize, HZZ.out.1])) rfl ?_
        exact HBAD.out _ (H1.out.2.2.trans' (setRow_mod _) (fun i hi hg => by omega)) HR.out
  by_cases o7 : op = 7 ∨ op = 8
  · have hkv : Keeps (fun b => b < w.heap.size) w V := HV.out.mod.keeps (fun _ _ _ f => f)
    have hres : res = mnamed X := by
      rw [H0.out.2.2.2.2.1]
      unfold mrest
      rw [if_neg (by omega), if_neg (by omega), if_neg (by omega), if_neg o4, if_pos o7]
    have hrV := H0.out.2.2.2.1.keeps hkv
    have hmX := H0.out.2.2.2.2.2
    have hstb := HSTB.out
    clear o1 o2 o3 o4 hkv
    cases X with
    | nil =>
      have HR := Lib.hid (show res.ok = false by rw [hres]; rfl)
      obtain rfl : m = 0 := hmX
      clear hres HFIN hrV
      rcases o7 with rfl | rfl
      all_goals
        go_wp2
        refine bodyPost_ret (results_cell_tmp rfl _ _ w.heap.size 48 Z (0, 0) _ rfl (setRow_heap _ _ _ _ _ _ HV.out.res) Tryz.underlying48 rfl (by rw [reqSize, HZZ.out.1])) rfl ?_
        exact HBAD.out _ (HV.out.mod.trans' (setRow_mod _) (fun i hi hg => by omega)) HR.out
    | cons y r =>
      obtain ⟨b9, o9, rfl, _, _, hcl9⟩ := hrV.open (by simp [bcells])
      have cy := hcl9 0 (.int .u8 (y.toNat : Int)) rfl
      rw [Nat.add_zero] at cy
      have hy := y.toNat_lt
      have hrm : r.length = m - 1 := by rw [hmX]; simp
      have hm0 : 0 < m := by rw [hmX]; simp
      have g1 : (0 : Int) < m := by omega
      have g2 : IntKind.i64.wrap (y.toNat : Int) = y.toNat := IntWalk.i64_in _ (by omega)
      have g3 : IntKind.i64.wrap (1 + (y.toNat : Int)) = 1 + (y.toNat : Int) := IntWalk.i64_in _ (by omega)
      by_cases hq : y.toNat = r.length
      · have hm1 : mnamed (y :: r) = { MRes.none true with nm := r } := by simp [mnamed, hq]
        rw [hm1] at hres
        have g4 : ((m : Int) == 1 + (y.toNat : Int)) = true := by rw [beq_iff_eq]; omega
        obtain ⟨A1, sl1, rl1⟩ := own_tail m c9 1 (some ⟨b9, o9, none⟩) (by omega) hmc
        have hr1 := rl1 _ V _ hrV
        have hd : ((bcells (y :: r)).drop 1).take (m - 1) = bcells r := by
          show (bcells r).take (m - 1) = _
          rw [List.take_of_length_le (by rw [bcells_length]; omega)]
        rw [hd] at hr1
        have hcv9 := conv_row (w := V) (c9 - 1) hr1
        rw [hrm] at hcv9
        have sl1' : ∀ W, (Instr.slice 40 (.slice (some ⟨b9, o9, none⟩) m c9) (some (.int .i64 1)) none none).run Tryz.prog W = .ok (.slice A1 (m - 1) (c9 - 1)) W := sl1
        have ht74 : V.cell? ⟨w.heap.size + 1, 74, none⟩ = some (.string (str [])) := (reqAt_cell HV.out.req 74).trans (AskD.at74 (askNew_ok key op))
        have f74 := blk_free HV.out.req 74
        have hmf : Mod (fun b => b = w.heap.size + 1) V (V.setCell ⟨w.heap.size + 1, 74, none⟩ (.string (str r))) := Mod.setCell (F := fun b => b = w.heap.size + 1) (p := ⟨w.heap.size + 1, 74, none⟩) (Mod.refl _ _) (.inr rfl) _
        have hreq : reqAt (V.setCell ⟨w.heap.size + 1, 74, none⟩ (.string (str r))) (w.heap.size + 1) { askNew key op with name := r } := by
          have hs := AskD.setName (askNew_ok key op) r
          rw [reqAt, heap_setCell_row HV.out.req]
          simp only [List.setIfInBounds_toArray]
          rw [hs]
        obtain ⟨CA, hCA⟩ : ∃ CA, CA = ({ askNew key op with name := r } : AskD).cells.toArray := ⟨_, rfl⟩
        have hF := HFIN.out _ _ CA TV.zero none 0 (hmf.obj HV.out.res (by omega)) hreq (by rw [hres]; exact askName_eq key op r) (by rw [hres]; rfl) (HV.out.mod.trans' hmf (fun i hi hg => by omega)) (by rw [hres]; rfl) (TV.zero_rows _ _) hCA
        obtain ⟨f1, f2, f3, f4, f5⟩ := hF
        have HF := Lib.hid (And.intro f3 (And.intro f4 f5))
        clear hCA f3 f4 f5 hres HFIN HBAD hmf hreq hq hrm hmX hcl9 hrV sl1 rl1 hr1 hd hy hm1 hstb H0
        rcases o7 with rfl | rfl
        all_goals
          go_wp2
          refine bodyPost_ret (results_cell_tmp rfl _ _ w.heap.size 48 CA (0, 0) _ rfl HF.out.1 Tryz.underlying48 rfl (by rw [reqSize, HF.out.2.1])) rfl ?_
          exact HF.out.2.2
      · have hm1 : mnamed (y :: r) = .none false := by simp [mnamed, hq]
        rw [hm1] at hres
        have g4 : ((m : Int) == 1 + (y.toNat : Int)) = false := by rw [beq_eq_false_iff_ne]; omega
        have HR := Lib.hid (show res.ok = false by rw [hres]; rfl)
        clear hres HFIN hq hrm hmX hcl9 hrV hy hm1 H0
        rcases o7 with rfl | rfl
        all_goals
          go_wp2
          refine bodyPost_ret (results_cell_tmp rfl _ _ w.heap.size 48 Z (0, 0) _ rfl (setRow_heap _ _ _ _ _ _ HV.out.res) Tryz.underlying48 rfl (by rw [reqSize, HZZ.out.1])) rfl ?_
          exact HBAD.out _ (HV.out.mod.trans' (setRow_mod _) (fun i hi hg => by omega)) HR.out
  · have hres : res = .none false := by
      rw [H0.out.2.2.2.2.1]
      unfold mrest
      rw [if_neg o1, if_neg o2, if_neg o3, if_neg o4, if_neg o7]
    have HR := Lib.hid (show res.ok = false by rw [hres]; rfl)
    have hstb := HSTB.out
    have t1 : ((op : Int) == 1) = false := by rw [beq_eq_false_iff_ne]; omega
    have t2 : ((op : Int) == 2) = false := by rw [beq_eq_false_iff_ne]; omega
    have t3 : ((op : Int) == 3) = false := by rw [beq_eq_false_iff_ne]; omega
    have t4 : ((op : Int) == 4) = false := by rw [beq_eq_false_iff_ne]; omega
    have t5 : ((op : Int) == 5) = false := by rw [beq_eq_false_iff_ne]; omega
    have t6 : ((op : Int) == 6) = false := by rw [beq_eq_false_iff_ne]; omega
    have t7 : ((op : Int) == 7) = false := by rw [beq_eq_false_iff_ne]; omega
    have t8 : ((op : Int) == 8) = false := by rw [beq_eq_false_iff_ne]; omega
    clear hres HFIN o1 o2 o3 o4 o7
    go_wp2
    refine bodyPost_ret (results_cell_tmp rfl _ _ w.heap.size 48 Z (0, 0) _ rfl (setRow_heap _ _ _ _ _ _ HV.out.res) Tryz.underlying48 rfl (by rw [reqSize, HZZ.out.1])) rfl ?_
    exact HBAD.out _ (HV.out.mod.trans' (setRow_mod _) (fun i hi hg => by omega)) HR.out
end

section
attribute [local go_sem] stPair gtPair gtK8 gtM6 run_store_func run_store_nilFunc
attribute [local go_sem high] neqPair eqK8 eqM6
attribute [local go_sem ↓] load_fold store_fold alloc_fold slice_op_fold con_load_fold chg_load_fold ten_zero_fold con_alloc_fold con_store_fold con_zero_fold chg_alloc_fold chg_store_fold chg_zero_fold chg_put_fold macLoad_fold macStore_fold keyLoad_fold keyStore_fold chg_make_fold chg_slice_fold askLoad_fold askStore_fold askAlloc_fold askBox_fold askZero_fold reqLoad_fold reqStore_fold reqAlloc_fold reqBox_fold reqZero_fold askPut_fold reqPut_fold
open Go.RowKit
set_option linter.unusedVariables false
/-- A request's parts, as they are compared. -/
structure AskIs (w : World) (a : AskD) (key : K8) (op : Int) (ver : Nat) (put : Bool) (cn : List UInt8) (x : TV) (cc : Con) (Q : Option Addr) (q : Nat) (nm : List UInt8) : Prop where
  ok : a.ok
  key : a.key = key
  op : a.op = op
  ver : a.ver = ver
  chg : a.chg = (cChg put cn x).toList
  con : a.con = (cc.cells (.slice Q 0 q)).toList
  nm : a.name = nm
set_option maxRecDepth 100000 in
set_option maxHeartbeats 2000000 in
theorem same_true {S S' : Nat → Prop} {w : World} {a b : AskD} {key : K8} {op : Int} {ver : Nat} {put : Bool} {cn : List UInt8} {x y : TV} {cc : Con} {Q Q' : Option Addr} {q q' : Nat} {nm : List UInt8} (ha : AskIs w a key op ver put cn x cc Q q nm) (hb : AskIs w b key op ver put cn y cc Q' q' nm)
    (hx : x.Rows S w) (hy : y.Rows S' w) (he : x.t = y.t) (hl : y.t.pool.length ≤ 300 ∧ y.t.statics.length ≤ 300 ∧ y.t.twices.length ≤ 300) :
    Calls Tryz.prog 12 #[.agg a.cells.toArray, .agg b.cells.toArray] w fun e w' => e = .returned (.bool true) ∧ Mod No w w' := by
  have hsA := AskD.size ha.ok
  have hsB := AskD.size hb.ok
  obtain ⟨CA, hCA⟩ : ∃ CA, CA = a.cells.toArray := ⟨_, rfl⟩
  obtain ⟨CB, hCB⟩ : ∃ CB, CB = b.cells.toArray := ⟨_, rfl⟩
  rw [← hCA] at hsA
  rw [← hCB] at hsB
  rw [← hCA, ← hCB]
  have hbA := askBox_new CA hsA
  have hbB := reqBox_new CB hsB
  obtain ⟨V, hV⟩ : ∃ V, V = (w.alloc (.cells CA 45)).alloc (.cells CB 48) := ⟨_, rfl⟩
  have hmV : Mod No w V := by rw [hV]; exact ((Mod.refl _ _).alloc _).alloc _
  have hatA : askAt V w.heap.size a := by rw [askAt, ← hCA, hV]; exact at20 w _ _
  have hatB : reqAt V (w.heap.size + 1) b := by rw [reqAt, ← hCB, hV]; exact at21 w _ _
  obtain ⟨K, hK⟩ : ∃ K, K = (bcells key.l).toArray := ⟨_, rfl⟩
  obtain ⟨C1, hC1⟩ : ∃ C1, C1 = cChg put cn x := ⟨_, rfl⟩
  obtain ⟨C2, hC2⟩ : ∃ C2, C2 = cChg put cn y := ⟨_, rfl⟩
  obtain ⟨D1, hD1⟩ : ∃ D1, D1 = cc.cells (.slice Q 0 q) := ⟨_, rfl⟩
  obtain ⟨D2, hD2⟩ : ∃ D2, D2 = cc.cells (.slice Q' 0 q') := ⟨_, rfl⟩
  have hs1 : C1.size = 35 := by rw [hC1]; exact cChg_size _ _ _
  have hs2 : C2.size = 35 := by rw [hC2]; exact cChg_size _ _ _
  have kA := askAt_keyLoad hatA
  have kB := reqAt_keyLoad hatB
  rw [ha.key, ← hK] at kA
  rw [hb.key, ← hK] at kB
  have eK : ∀ W, (binOp .eql 22 (.agg K) (.agg K)).run Tryz.prog W = .ok (.bool true) W := fun W => by
    rw [hK]
    have := eqK8 key key W
    rw [decide_eq_true rfl] at this
    exact this
  have a8 : V.cell? ⟨w.heap.size, 8, none⟩ = some (.int .i64 op) := by rw [askAt_cell hatA, AskD.at8, ha.op]
  have b8 : V.cell? ⟨w.heap.size + 1, 8, none⟩ = some (.int .i64 op) := by rw [reqAt_cell hatB, AskD.at8, hb.op]
  have a9 : V.cell? ⟨w.heap.size, 9, none⟩ = some (.int .u64 (ver : Int)) := by rw [askAt_cell hatA, AskD.at9, ha.ver]
  have b9 : V.cell? ⟨w.heap.size + 1, 9, none⟩ = some (.int .u64 (ver : Int)) := by rw [reqAt_cell hatB, AskD.at9, hb.ver]
  have hld : ∀ W, Mod No V W → (chgLoad (.pointer (some ⟨w.heap.size, 10, none⟩))).run Tryz.prog W = .ok (.agg C1) W ∧ (chgLoad (.pointer (some ⟨w.heap.size + 1, 10, none⟩))).run Tryz.prog W = .ok (.agg C2) W ∧ (conLoad (.pointer (some ⟨w.heap.size, 45, none⟩))).run Tryz.prog W = .ok (.agg D1) W ∧ (conLoad (.pointer (some ⟨w.heap.size + 1, 45, none⟩))).run Tryz.prog W = .ok (.agg D2) W ∧ W.cell? ⟨w.heap.size, 74, none⟩ = some (.string (str nm)) ∧ W.cell? ⟨w.heap.size + 1, 74, none⟩ = some (.string (str nm)) := fun W hW => by
    have h1 : askAt W w.heap.size a := hW.obj hatA id
    have h2 : reqAt W (w.heap.size + 1) b := hW.obj hatB id
    refine ⟨?_, ?_, ?_, ?_, ?_, ?_⟩
    · rw [askAt_chgLoad h1 ha.ok, ha.chg, hC1]
    · rw [reqAt_chgLoad h2 hb.ok, hb.chg, hC2]
    · rw [askAt_conLoad h1 ha.ok, ha.con, hD1]
    · rw [reqAt_conLoad h2 hb.ok, hb.con, hD2]
    · rw [askAt_cell h1, AskD.at74 ha.ok, ha.nm]
    · rw [reqAt_cell h2, AskD.at74 hb.ok, hb.nm]
  have kp : ∀ {S : Nat → Prop} {a b : World}, Mod No a b → Keeps S a b := fun h => h.keeps (fun _ _ _ f => f)
  have hch : ∀ W, Mod No V W → Calls Tryz.prog 23 #[.slice (some ⟨W.heap.size, 0, none⟩) 1 1, .slice (some ⟨W.heap.size + 1, 0, none⟩) 1 1] ((W.alloc (.cells C1 33)).alloc (.cells C2 33)) fun e w' => e = .returned (.bool true) ∧ Mod No W w' := fun W hW => by
    have hm : Mod No W ((W.alloc (.cells C1 33)).alloc (.cells C2 33)) := ((Mod.refl _ _).alloc _).alloc _
    have h5 := at20 W (.cells C1 33) (.cells C2 33)
    have h6 := at21 W (.cells C1 33) (.cells C2 33)
    have := changes_same put cn (by rw [← hC1]; exact h5) (by rw [← hC2]; exact h6) (hx.keeps (kp ((hmV.trans hW).trans hm))) (hy.keeps (kp ((hmV.trans hW).trans hm))) he hl
    exact this.mono fun e w' ⟨h1, h2⟩ => ⟨h1, hm.trans h2⟩
  have hcf : ∀ W, Mod No V W → Calls Tryz.prog 24 #[.agg D1, .agg D2] W fun e w' => e = .returned (.bool true) ∧ Mod No W w' := fun W hW => by
    rw [hD1, hD2]
    exact config_same (S := No) (S' := No) (l := []) (l' := []) cc ⟨.nil _ _ _, by simp⟩ ⟨.nil _ _ _, by simp⟩ rfl rfl (by simp) (by omega)
  have hcs1 := chgSlice_run C1 hs1
  have hcs2 := chgSlice_run C2 hs2
  have e8 : (op == op) = true := by simp
  have e9 : ((ver : Int) == ver) = true := by simp
  have HLD := Lib.hid hld
  have HCH := Lib.hid hch
  have HCF := Lib.hid hcf
  have HM := Lib.hid hmV
  have HV := Lib.hid hV
  have b1 := (hld V (Mod.refl _ _)).1
  have b2 : (chgLoad (.pointer (some ⟨w.heap.size + 1, 10, none⟩))).run Tryz.prog (V.alloc (.cells C1 33)) = .ok (.agg C2) (V.alloc (.cells C1 33)) := (hld _ ((Mod.refl _ _).alloc _)).2.1
  clear hsA hsB hCA hCB hV hmV hatA hatB hK hC1 hC2 hD1 hD2 hs1 hs2 hld hch hcf kp ha hb hx hy he hl
  go_enter Tryz.func12, Tryz.ntmps12
  go_upto_region 1 with fail
  rw [← HV.out]
  clear HV
  go_wp2_with (first
    | (go_at_call 23; refine (HCH.out _ (Mod.refl _ _)).mono ?_; rintro e u1 ⟨rfl, n1⟩; obtain ⟨_, _, b3, b4, _, _⟩ := HLD.out u1 n1; have N1 := Lib.hid n1; clear n1)
    | (go_at_call 24; refine (HCF.out _ N1.out).mono ?_; rintro e u2 ⟨rfl, n2⟩; obtain ⟨_, _, _, _, b5, b6⟩ := HLD.out u2 (N1.out.trans n2); have N2 := Lib.hid (Mod.trans N1.out n2); clear n2)
    | fail)
  go_ret
  exact ⟨by simp, HM.out.trans N2.out⟩
end

section
attribute [local go_sem] stPair gtPair gtK8 gtM6 run_store_func run_store_nilFunc
attribute [local go_sem high] neqPair eqK8 eqM6
attribute [local go_sem ↓] load_fold store_fold alloc_fold slice_op_fold con_load_fold chg_load_fold ten_zero_fold con_alloc_fold con_store_fold con_zero_fold chg_alloc_fold chg_store_fold chg_zero_fold chg_put_fold macLoad_fold macStore_fold keyLoad_fold keyStore_fold chg_make_fold chg_slice_fold askLoad_fold askStore_fold askAlloc_fold askBox_fold askZero_fold reqLoad_fold reqStore_fold reqAlloc_fold reqBox_fold reqZero_fold askPut_fold reqPut_fold
open Go.RowKit
set_option linter.unusedVariables false
theorem askStore_nw (W : World) (CA : Array Value) (hc : CA.size = 75) (h1 : CA.all (·.oneCell') = true) : (askStore (.pointer (some ⟨W.heap.size, 0, none⟩)) (.agg CA)).run Tryz.prog (W.alloc (.cells AskD.zero.cells.toArray 45)) = .ok () (W.alloc (.cells CA 45)) := askStore_new W CA hc h1
def k7 : K8 := ⟨7, 0, 0, 0, 0, 0, 0, 0⟩
def ask4 : AskD := { AskD.zero with key := k7, op := 4 }
theorem ask4_ok : ask4.ok := ⟨AskD.zero_ok.chg, AskD.zero_ok.con, AskD.zero_ok.chg1, AskD.zero_ok.con1⟩
def kb9 : List UInt8 := [7, 0, 0, 0, 0, 0, 0, 0, 4]
theorem mread_kb9 : mread kb9 = .none true := rfl
theorem row_lt {B : Nat} {W : World} {A : Option Addr} {cs : List Value} (h : RowAt (fun b => B ≤ b) W A cs) : RowAt (fun b => b < W.heap.size) W A cs := h.mono (fun b hb _ => hb)
set_option maxRecDepth 100000 in
set_option maxHeartbeats 2000000 in
theorem known24 (w : World) : Calls Tryz.prog 4 #[] w fun e w' => e = .returned (.bool true) ∧ Mod No w w' := by
  obtain ⟨A4, hA4⟩ : ∃ A4, A4 = ask4.cells.toArray := ⟨_, rfl⟩
  have hpt : ∀ W, (askPut (.agg #[.int .u8 7, .int .u8 0, .int .u8 0, .int .u8 0, .int .u8 0, .int .u8 0, .int .u8 0, .int .u8 0]) (.int .i64 4)).run Tryz.prog W = .ok (.agg A4) W := fun W => by rw [hA4]; exact askPut_run k7 4 W
  have HB := Lib.hid (fun W => by
    have := bytes_some (w := W) ask4 ask4_ok (r := 26) (wr := 27) rfl true [] (by decide) (fun W' _ => wr_nothing _ (AskD.size ask4_ok))
    rw [← hA4] at this
    exact this)
  have HR := Lib.hid (fun (W : World) (A : Option Addr) (c : Nat) (hrow : RowAt (fun b => b < W.heap.size) W A (bcells kb9)) (hc : 9 ≤ c) => mread_ok (w := W) kb9 hrow hc (by decide))
  have HN := Lib.hid (fun (W : World) => mread_short (w := W) (A := none) (n := 0) (c := 0) (by decide) (.none false) rfl .zero 0)
  have HP := Lib.hid (fun (W : World) => reply_ok (S := fun _ => True) (w := W.alloc (.cells #[.int .u8 1] 5)) 9 [1] (A := some ⟨W.heap.size, 0, none⟩) (c := 1) (row_new (fun _ => True) W [1] |>.mono (fun _ _ _ => trivial)) (by decide))
  have HO := Lib.hid (fun (W : World) (A : Option Addr) (c : Nat) (hrow : RowAt (fun _ => True) W A (bcells [0, 9, 1])) (hc : 3 ≤ c) => openReply_ok (S := fun _ => True) (w := W) 0 9 [1] (n := 3) hrow rfl hc (by decide))
  have hal := askAlloc_run
  clear hA4
  go_enter Tryz.func4, Tryz.ntmps4
  go_upto_region 2 with (first | (go_at_call 7; refine (HB.out _).mono ?_; intro e w1 hq; obtain ⟨hm, hok, _⟩ := hq; obtain ⟨v1, rfl, ho1⟩ := hok rfl; have H1 := Lib.hid (And.intro hm ho1); clear hm ho1) | fail)
  obtain ⟨A1, c1, rfl, hc1, hr1⟩ := OwnB.open (show OwnB w1 w.heap.size v1 kb9 from H1.out.2)
  have HR1 := Lib.hid (And.intro hr1 hc1)
  rw [show kb9.length = 9 from rfl]
  clear hc1 hr1
  have HQ := Lib.hid (HR.out w1 A1 c1 (row_lt HR1.out.1) HR1.out.2)
  rw [mread_kb9] at HQ
  go_upto_region 3 with (first | (go_at_call 10; refine HQ.out.mono ?_; intro e w2 hq; obtain ⟨hm, hok, _⟩ := hq; obtain ⟨x, Q, q, rfl, hx, hxr⟩ := hok rfl; have hao := MRes.ask_ok (MRes.none true) (mkey kb9) (mop kb9) Q q hxr; have hst := askStore_nw w2 _ (AskD.size hao) (AskD.one hao); have H2 := Lib.hid (And.intro hm (And.intro hx hxr)); clear hm hx hxr hao) | fail)
  obtain ⟨CA, hCA⟩ : ∃ CA, CA = ((MRes.none true).ask (mkey kb9) (mop kb9) x Q q).cells.toArray := ⟨_, rfl⟩
  have hao := MRes.ask_ok (MRes.none true) (mkey kb9) (mop kb9) Q q H2.out.2.2
  refine grab_world fun V hV => ?_
  have hmV : Mod No w2 V := by rw [hV]; exact (Mod.refl _ _).alloc _
  have hat : askAt V w2.heap.size ((MRes.none true).ask (mkey kb9) (mop kb9) x Q q) := by rw [askAt, hV]; exact at10 w2 _
  have HV := Lib.hid (And.intro (H1.out.1.trans (H2.out.1.trans hmV)) (And.intro hat hao))
  rw [← hCA]
  clear hV hmV hat hao hst hCA
  have hz := askZero_run
  have hZs := AskD.size AskD.zero_ok
  have hZo := AskD.one AskD.zero_ok
  go_upto_region 4 with (first | (go_at_call 10; refine (HN.out _).mono ?_; intro e w3 hq; obtain ⟨hm, _, hbad⟩ := hq; obtain rfl := hbad rfl; have hst := askStore_nw w3 _ hZs hZo; have H3 := Lib.hid hm; clear hm hbad) | fail)
  refine grab_world fun V2 hV2 => ?_
  have hmV2 : Mod No V V2 := by rw [hV2]; exact H3.out.alloc _
  have H4 := Lib.hid hmV2
  clear hV2 hmV2 hst hZs hZo
  have HPP := Lib.hid (HP.out V2)
  go_upto_region 5 with (first
    | (go_at_call 14; refine HPP.out.mono ?_; rintro e w4 ⟨v4, rfl, ho4, hm4⟩; obtain ⟨A4, c4, rfl, hc4, hr4⟩ := OwnB.open (show OwnB w4 _ v4 [0, 9, 1] from ho4); have HOO := Lib.hid (HO.out w4 A4 c4 (hr4.mono (fun _ _ _ => trivial)) hc4); have H5 := Lib.hid hm4; clear ho4 hm4 hc4 hr4)
    | (go_at_call 13; refine HOO.out.mono ?_; rintro e w5 ⟨v5, rfl, ho5, hm5⟩; have H6 := Lib.hid (And.intro ho5 hm5); clear ho5 hm5)
    | fail)
  have hmw : Mod No V w5 := H4.out.trans ((((Mod.refl _ _).alloc _).trans H5.out).trans H6.out.2)
  have hat5 : askAt w5 w2.heap.size ((MRes.none true).ask (mkey kb9) (mop kb9) x Q q) := hmw.obj HV.out.2.1 id
  have c8 : w5.cell? ⟨w2.heap.size, 8, none⟩ = some (.int .i64 4) := (askAt_cell hat5 8).trans (AskD.at8 _)
  have kl : (keyLoad (.pointer (some ⟨w2.heap.size, 0, none⟩))).run Tryz.prog w5 = .ok (.agg #[.int .u8 7, .int .u8 0, .int .u8 0, .int .u8 0, .int .u8 0, .int .u8 0, .int .u8 0, .int .u8 0]) w5 := askAt_keyLoad hat5
  have eK : ∀ W, (binOp .eql 22 (.agg #[.int .u8 7, .int .u8 0, .int .u8 0, .int .u8 0, .int .u8 0, .int .u8 0, .int .u8 0, .int .u8 0]) (.agg #[.int .u8 7, .int .u8 0, .int .u8 0, .int .u8 0, .int .u8 0, .int .u8 0, .int .u8 0, .int .u8 0])).run Tryz.prog W = .ok (.bool true) W := fun W => by
    have := eqK8 k7 k7 W
    rw [decide_eq_true rfl] at this
    exact this
  obtain ⟨A5, c5, rfl, hc5, hr5⟩ := OwnB.open (show OwnB w5 _ v5 [1] from H6.out.1)
  have HY := Lib.hid (show Calls Tryz.prog 9 #[.slice A5 1 c5, .slice (some ⟨w5.heap.size, 0, none⟩) 1 1] (w5.alloc (.cells #[.int .u8 1] 5)) fun e w' => e = .returned (.bool true) ∧ w' = w5.alloc (.cells #[.int .u8 1] 5) from bytes_ok (S' := fun _ => True) A5 (some ⟨w5.heap.size, 0, none⟩) c5 1 [1] [1] (w := w5.alloc (.cells #[.int .u8 1] 5)) (hr5.keeps (((Mod.refl No w5).alloc _).keeps (fun _ _ _ f => f))) (row_new (fun _ => True) w5 [1] |>.mono (fun _ _ _ => trivial)))
  have HM := Lib.hid (HV.out.1.trans hmw)
  clear hmw hat5 hc5 hr5
  go_wp2_with (first | (go_at_call 9; refine HY.out.mono ?_; rintro e w6 ⟨rfl, rfl⟩) | fail)
  go_ret
  exact ⟨by simp, HM.out.alloc _⟩
end

section
attribute [local go_sem] stPair gtPair gtK8 gtM6 run_store_func run_store_nilFunc
attribute [local go_sem high] neqPair eqK8 eqM6
attribute [local go_sem ↓] load_fold store_fold alloc_fold slice_op_fold con_load_fold chg_load_fold ten_zero_fold con_alloc_fold con_store_fold con_zero_fold chg_alloc_fold chg_store_fold chg_zero_fold chg_put_fold macLoad_fold macStore_fold keyLoad_fold keyStore_fold chg_make_fold chg_slice_fold askLoad_fold askStore_fold askAlloc_fold askBox_fold askZero_fold reqLoad_fold reqStore_fold reqAlloc_fold reqBox_fold reqZero_fold askPut_fold reqPut_fold
open Go.RowKit
set_option linter.unusedVariables false
/-- A request that is read, whether it may be or not. -/
def ReadN (r : MRes) (key : K8) (op : Nat) (err : Nat) (w : World) (e : Ending) (w' : World) : Prop :=
  ∃ (CA : Array Value) (x : TV) (Q : Option Addr) (q : Nat), e = .returned (.tuple #[.agg CA, .int .i64 (err : Int)]) ∧ CA = (r.ask key op x Q q).cells.toArray ∧ x.t = r.ct ∧ x.Rows (fun b => w.heap.size ≤ b) w' ∧ Mod No w w' ∧ CA.size = 75 ∧ CA.all (·.oneCell') = true
theorem readN_of {r : MRes} {key : K8} {op : Nat} {w w' : World} {e : Ending} (h : MReadQ r key op w e w') : (r.ok = true ∧ ReadN r key op 0 w e w') ∨ (r.ok = false ∧ ReadN (.none false) .zero 0 160 w e w') := by
  obtain ⟨hm, h1, h2⟩ := h
  cases hr : r.ok with
  | true =>
    obtain ⟨x, Q, q, e1, e2, e3⟩ := h1 hr
    have hao := MRes.ask_ok r key op Q q e3
    exact .inl ⟨rfl, _, x, Q, q, e1, rfl, e2, e3, hm, AskD.size hao, AskD.one hao⟩
  | false =>
    have e1 := h2 hr
    have hz : AskD.zero = (MRes.none false).ask .zero 0 TV.zero none 0 := (show AskD.zero = askNew .zero 0 from rfl).trans (askNew_eq .zero 0 false)
    have hr0 := TV.zero_rows (fun b => w.heap.size ≤ b) w'
    refine .inr ⟨rfl, _, TV.zero, none, 0, by rw [e1]; rfl, by rw [← hz], rfl, hr0, hm, AskD.size AskD.zero_ok, AskD.one AskD.zero_ok⟩
theorem readN_calls {r : MRes} {key : K8} {op : Nat} : ∃ (r' : MRes) (key' : K8) (op' err : Nat), (∀ f args w, Calls Tryz.prog f args w (MReadQ r key op w) → Calls Tryz.prog f args w (ReadN r' key' op' err w)) ∧ (r.ct.small → r'.ct.small) ∧ (err = if r.ok then 0 else 160) := by
  cases hr : r.ok with
  | true => exact ⟨r, key, op, 0, (fun f args w h => h.mono fun e w' hq => by rcases readN_of hq with h1 | h1; exact h1.2; rw [hr] at h1; cases h1.1), id, rfl⟩
  | false => exact ⟨.none false, .zero, 0, 160, (fun f args w h => h.mono fun e w' hq => by rcases readN_of hq with h1 | h1; rw [hr] at h1; cases h1.1; exact h1.2), (fun _ => ⟨by decide, by decide, by decide⟩), rfl⟩
theorem ite_small {c : Prop} [Decidable c] {a b : MRes} (ha : a.ct.small) (hb : b.ct.small) : (if c then a else b).ct.small := by
  by_cases h : c
  · rw [if_pos h]; exact ha
  · rw [if_neg h]; exact hb
theorem none_small (b : Bool) : (MRes.none b).ct.small := show Ten.zero.small from ⟨by decide, by decide, by decide⟩
theorem mchg_small (B : List UInt8) : (mchg B).ct.small := ite_small (ocg_small B) (none_small _)
theorem mcon_small (B : List UInt8) : (mcon B).ct.small := ite_small (none_small true) (none_small _)
theorem mnamed_small (B : List UInt8) : (mnamed B).ct.small := by
  cases B with
  | nil => exact none_small _
  | cons x r => exact ite_small (none_small true) (none_small _)
theorem mrest_small (op : Nat) (B : List UInt8) : (mrest op B).ct.small :=
  ite_small (ite_small (none_small true) (none_small _)) (ite_small (mchg_small _) (ite_small (mcon_small _) (ite_small (none_small _) (ite_small (mnamed_small _) (none_small _)))))
theorem mread_small (B : List UInt8) : (mread B).ct.small := ite_small (none_small _) (mrest_small _ _)
theorem askIs_of {S : Nat → Prop} {w : World} (r : MRes) (key : K8) (op : Nat) {x : TV} (Q : Option Addr) (q : Nat) (h : x.Rows S w) : AskIs w (r.ask key op x Q q) key op r.ver r.put r.cn x r.cc Q q r.nm :=
  ⟨MRes.ask_ok r key op Q q h, by simp only [MRes.ask], by simp only [MRes.ask], by simp only [MRes.ask], by simp only [MRes.ask], by simp only [MRes.ask], by simp only [MRes.ask]⟩
theorem reqStore_nw (W : World) (CA : Array Value) (hc : CA.size = 75) (h1 : CA.all (·.oneCell') = true) : (reqStore (.pointer (some ⟨W.heap.size, 0, none⟩)) (.agg CA)).run Tryz.prog (W.alloc (.cells AskD.zero.cells.toArray 48)) = .ok () (W.alloc (.cells CA 48)) := reqStore_new W CA hc h1
end

end Go.Proofs.YtpkieilmlnlpkaaGreat
