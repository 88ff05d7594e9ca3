/-
  MgO in one text (pack.py).
-/
import Derived.Test.YtpkieilmlnlpkaaR5
namespace Go.Proofs.Ytpkieilmlnlpkaa

section
attribute [local go_sem] stPair gtPair gtK8 gtM6 run_store_func run_store_nilFunc
attribute [local go_sem high] neqPair eqK8 eqM6
attribute [local go_sem ↓] load_fold store_fold alloc_fold slice_op_fold con_load_fold chg_load_fold ten_zero_fold con_alloc_fold con_store_fold con_zero_fold chg_alloc_fold chg_store_fold chg_zero_fold chg_put_fold macLoad_fold macStore_fold keyLoad_fold keyStore_fold chg_make_fold chg_slice_fold askLoad_fold askStore_fold askAlloc_fold askBox_fold askZero_fold reqLoad_fold reqStore_fold reqAlloc_fold reqBox_fold reqZero_fold askPut_fold reqPut_fold
open Go.RowKit
set_option linter.unusedVariables false
/-- What stands behind a request's first nine bytes, of an Op that names no settings. -/
def wl (o ver : Nat) (nm : List UInt8) : List UInt8 := if o = 1 then be 8 ver else if o ≤ 6 then [] else UInt8.ofNat nm.length :: nm
def OpK (o : Nat) : Prop := o = 1 ∨ o = 4 ∨ o = 5 ∨ o = 6 ∨ o = 7 ∨ o = 8
theorem mread_at (key : K8) (o : Nat) (h : o < 256) (X : List UInt8) : mread (key.l ++ UInt8.ofNat o :: X) = mrest o X := by
  have hl : ¬ (key.l ++ UInt8.ofNat o :: X).length < 9 := by simp [K8.l]
  have hop : mop (key.l ++ UInt8.ofNat o :: X) = o := by
    show (UInt8.ofNat o).toNat = o
    simp
    omega
  rw [mread, if_neg hl, hop]
  rfl
theorem rest_one (X : List UInt8) : (mrest 1 X).ok = decide (X.length = 8) := by
  show (if X.length = 8 then { MRes.none true with ver := beval X } else .none false : MRes).ok = _
  by_cases h : X.length = 8
  · rw [if_pos h, decide_eq_true h]; rfl
  · rw [if_neg h, decide_eq_false h]; rfl
theorem rest_none {o : Nat} (h : o = 4 ∨ o = 5 ∨ o = 6) (X : List UInt8) : (mrest o X).ok = decide (X = []) := by
  unfold mrest
  rw [if_neg (by omega), if_neg (by omega), if_neg (by omega), if_pos h]
  rfl
theorem rest_named {o : Nat} (h : o = 7 ∨ o = 8) (X : List UInt8) : (mrest o X).ok = (mnamed X).ok := by
  unfold mrest
  rw [if_neg (by omega), if_neg (by omega), if_neg (by omega), if_neg (by omega), if_pos h]
theorem named_ok (x : UInt8) (r : List UInt8) : (mnamed (x :: r)).ok = decide (x.toNat = r.length) := by
  show (if x.toNat = r.length then { MRes.none true with nm := r } else .none false : MRes).ok = _
  by_cases h : x.toNat = r.length
  · rw [if_pos h, decide_eq_true h]; rfl
  · rw [if_neg h, decide_eq_false h]; rfl
theorem whole_ok {o : Nat} (h : OpK o) (ver : Nat) (nm : List UInt8) (hn : nm.length ≤ 255) : (mrest o (wl o ver nm)).ok = true := by
  rcases h with rfl | rfl | rfl | rfl | rfl | rfl
  · rw [rest_one]; simp [wl, be_length]
  · rw [rest_none (by omega)]; rfl
  · rw [rest_none (by omega)]; rfl
  · rw [rest_none (by omega)]; rfl
  all_goals
    rw [rest_named (by omega)]
    show (mnamed (UInt8.ofNat nm.length :: nm)).ok = true
    rw [named_ok]
    simp
    omega
theorem more_bad {o : Nat} (h : OpK o) (ver : Nat) (nm : List UInt8) (hn : nm.length ≤ 255) : (mrest o (wl o ver nm ++ [0])).ok = false := by
  rcases h with rfl | rfl | rfl | rfl | rfl | rfl
  · rw [rest_one]; simp [wl, be_length]
  · rw [rest_none (by omega)]; rfl
  · rw [rest_none (by omega)]; rfl
  · rw [rest_none (by omega)]; rfl
  all_goals
    rw [rest_named (by omega)]
    show (mnamed (UInt8.ofNat nm.length :: (nm ++ [0]))).ok = false
    rw [named_ok]
    simp
    omega
theorem less_bad {o : Nat} (h : OpK o) (ver : Nat) (nm : List UInt8) (hn : nm.length ≤ 255) (k : Nat) (hk : k < (wl o ver nm).length) : (mrest o ((wl o ver nm).take k)).ok = false := by
  rcases h with rfl | rfl | rfl | rfl | rfl | rfl
  · rw [rest_one]
    have : (wl 1 ver nm).length = 8 := by simp [wl, be_length]
    rw [List.length_take, decide_eq_false (by omega)]
  · simp [wl] at hk
  · simp [wl] at hk
  · simp [wl] at hk
  all_goals
    rw [rest_named (by omega)]
    have hk' : k < (UInt8.ofNat nm.length :: nm).length := hk
    show (mnamed ((UInt8.ofNat nm.length :: nm).take k)).ok = false
    cases k with
    | zero => rfl
    | succ k =>
      rw [List.take_succ_cons, named_ok]
      simp at hk'
      simp
      omega
theorem cut_bad (key : K8) {o : Nat} (h : OpK o) (ver : Nat) (nm : List UInt8) (hn : nm.length ≤ 255) (k : Nat) (hk : k < (key.l ++ UInt8.ofNat o :: wl o ver nm).length) : (mread ((key.l ++ UInt8.ofNat o :: wl o ver nm).take k)).ok = false := by
  have ho : o < 256 := by rcases h with rfl | rfl | rfl | rfl | rfl | rfl <;> decide
  by_cases h9 : k < 9
  · have : ((key.l ++ UInt8.ofNat o :: wl o ver nm).take k).length < 9 := by rw [List.length_take]; omega
    rw [mread, if_pos this]; rfl
  · have e : (key.l ++ UInt8.ofNat o :: wl o ver nm).take k = key.l ++ UInt8.ofNat o :: (wl o ver nm).take (k - 9) := by
      have e8 : key.l.length = 8 := rfl
      rw [List.take_append, e8, List.take_of_length_le (by rw [e8]; omega), show k - 8 = (k - 9) + 1 by omega, List.take_succ_cons]
    rw [e, mread_at key o ho]
    refine less_bad h ver nm hn _ ?_
    have e8 : key.l.length = 8 := rfl
    rw [List.length_append, List.length_cons, e8] at hk
    omega
theorem row_take {S : Nat → Prop} {w : World} {A : Option Addr} {cs : List Value} (h : RowAt S w A cs) (k : Nat) : RowAt S w A (cs.take k) := by
  rcases h with rfl | ⟨b, o, e, hs, hc⟩
  · simp; exact .nil _ _ _
  · refine .inr ⟨b, o, e, hs, fun j v hj => hc j v ?_⟩
    have := (List.getElem?_eq_some_iff.1 hj).1
    rw [List.length_take] at this
    rwa [List.getElem?_take_of_lt (by omega)] at hj
def askPut3 (o v n : Value) : Sem Value := Instr.build 40 #[(1, o), (2, v), (5, n)]
theorem askPut3_fold (ρ : Operand → Value) (x y z : Operand) (dst : Option Tmp) (ty : TypeId) (pos : String) (after : Array Edge) (g : Option (Nat × Bool)) :
    execOp ρ { dst := dst, op := .build 40 #[(1, x), (2, y), (5, z)], type := ty, pos := pos, after := after, guard := g } = (do pure (Next.value (← askPut3 (ρ x) (ρ y) (ρ z))) : Sem Next) := by
  show (do pure (Next.value (← Instr.build 40 (#[(1, x), (2, y), (5, z)].map fun (i, x) => (i, ρ x)))) : Sem Next) = _
  have hm : (#[((1 : Nat), x), (2, y), (5, z)].map fun (i, x) => (i, ρ x)) = #[(1, ρ x), (2, ρ y), (5, ρ z)] := by simp
  rw [hm]
  rfl
attribute [local go_sem ↓] askPut3_fold
def ask3 (o ver : Nat) (nm : List UInt8) : AskD := { AskD.zero with op := o, ver := ver, name := nm }
theorem ask3_ok (o ver : Nat) (nm : List UInt8) : (ask3 o ver nm).ok := ⟨AskD.zero_ok.chg, AskD.zero_ok.con, AskD.zero_ok.chg1, AskD.zero_ok.con1⟩
set_option maxRecDepth 100000 in
theorem askPut3_run (o ver : Nat) (nm : List UInt8) (W : World) : (askPut3 (.int .i64 o) (.int .u64 ver) (.string (str nm))).run Try.prog W = .ok (.agg (ask3 o ver nm).cells.toArray) W := by kernel_rfl
theorem write_any {o : Nat} (h : OpK o) (ver : Nat) (nm : List UInt8) (hn : nm.length ≤ 255) : ∃ r wr, kindOf (ask3 o ver nm).op = some (r, wr) ∧ ∀ W, Calls Try.prog wr #[.agg (ask3 o ver nm).cells.toArray] W (WrQ true (wl o ver nm) W) := by
  have hk := ask3_ok o ver nm
  have hd : decide (nm.length ≤ 255) = true := by simpa using hn
  rcases h with rfl | rfl | rfl | rfl | rfl | rfl
  · exact ⟨_, _, rfl, fun W => wr_begin _ hk⟩
  · exact ⟨_, _, rfl, fun W => wr_nothing _ (AskD.size hk)⟩
  · exact ⟨_, _, rfl, fun W => wr_nothing _ (AskD.size hk)⟩
  · exact ⟨_, _, rfl, fun W => wr_nothing _ (AskD.size hk)⟩
  · refine ⟨_, _, rfl, fun W => ?_⟩
    have := wr_named (w := W) _ hk (show nm.length ≤ 1000000 by omega)
    rw [show (ask3 7 ver nm).name = nm from rfl, hd] at this
    exact this
  · refine ⟨_, _, rfl, fun W => ?_⟩
    have := wr_named (w := W) _ hk (show nm.length ≤ 1000000 by omega)
    rw [show (ask3 8 ver nm).name = nm from rfl, hd] at this
    exact this
theorem ops6 {j : Nat} (hj : j < 6) : ∃ o : Nat, OpK o ∧ (#[Value.int .i64 1, .int .i64 4, .int .i64 5, .int .i64 6, .int .i64 7, .int .i64 8] : Array Value)[j]? = some (.int .i64 (o : Int)) := by
  match j, hj with
  | 0, _ => exact ⟨1, .inl rfl, rfl⟩
  | 1, _ => exact ⟨4, .inr (.inl rfl), rfl⟩
  | 2, _ => exact ⟨5, .inr (.inr (.inl rfl)), rfl⟩
  | 3, _ => exact ⟨6, .inr (.inr (.inr (.inl rfl))), rfl⟩
  | 4, _ => exact ⟨7, .inr (.inr (.inr (.inr (.inl rfl)))), rfl⟩
  | 5, _ => exact ⟨8, .inr (.inr (.inr (.inr (.inr rfl)))), rfl⟩
set_option maxRecDepth 100000 in
set_option maxHeartbeats 1000000 in
theorem mgmtCuts_walk {w : World} (x : Int) (ver : Nat) (nm : List UInt8) (y : Int) (hv : ver < 18446744073709551616) :
    Calls Try.prog 5 #[.int .i64 x, .int .u64 (ver : Int), .string (str nm), .int .i64 y] w fun e w' => e = .returned (.bool true) ∧ Mod No w w' := by
  obtain ⟨n, hn⟩ : ∃ n, n = nm.length := ⟨_, rfl⟩
  have hsz : (str nm).size = n := by rw [str_size, hn]
  have HKN := Lib.hid (known24 w)
  have H0 := Lib.hid hn
  clear hn hv
  go_enter Try.func5, Try.ntmps5
  go_wp2_with fail
  refine HKN.out.mono ?_
  rintro e w1 ⟨rfl, m0⟩
  by_cases h4 : 255 < n
  · have p1 : (255 : Int) < n := by omega
    have M0 := Lib.hid m0
    clear m0
    go_wp2
    go_ret
    exact ⟨rfl, M0.out⟩
  have p1 : ¬ (255 : Int) < n := by omega
  have HP := Lib.hid (fun W => place_ok W x 6 (by decide) (by decide))
  have M0 := Lib.hid m0
  have hn2 : nm.length ≤ 255 := by have := H0.out; omega
  have HN2 := Lib.hid hn2
  clear m0 h4 HKN hn2
  go_upto_region 6 with (first | (go_at_call 14; refine (HP.out _).mono ?_; intro e w2 hq; obtain ⟨j, rfl, hj, rfl⟩ := hq; obtain ⟨o, ho, hcell⟩ := ops6 hj; have cj := (blk_cell (at10 w1 (.cells #[Value.int .i64 1, .int .i64 4, .int .i64 5, .int .i64 6, .int .i64 7, .int .i64 8] 3)) j).trans hcell; have j1 : (0 : Int) ≤ j := Int.natCast_nonneg _; have j2 : (j : Int) < 6 := (by omega); have HO := Lib.hid ho; clear ho hcell hj) | fail)
  refine grab_world fun V hV => ?_
  have hmV : Mod No w V := by rw [hV]; exact M0.out.alloc _
  have HV := Lib.hid hmV
  clear hV hmV cj
  obtain ⟨r, wr, hko, hW⟩ := write_any HO.out ver nm HN2.out
  obtain ⟨L, hL⟩ : ∃ L, L = wl o ver nm := ⟨_, rfl⟩
  have hL8 : L.length ≤ 300 := by
    rw [hL]
    have := HN2.out
    rcases HO.out with rfl | rfl | rfl | rfl | rfl | rfl <;> simp [wl, be_length] <;> omega
  have ho8 : o < 256 := by rcases HO.out with rfl | rfl | rfl | rfl | rfl | rfl <;> decide
  have HB := Lib.hid (bytes_some (w := V) (ask3 o ver nm) (ask3_ok o ver nm) hko true (wl o ver nm) (by rw [← hL]; omega) (fun W _ => hW W))
  have hop : UInt8.ofNat ((ask3 o ver nm).op % 256).toNat = UInt8.ofNat o := by
    show UInt8.ofNat ((o : Int) % 256).toNat = _
    congr 1
    omega
  rw [hop] at HB
  obtain ⟨D, hD⟩ : ∃ D, D = K8.zero.l ++ UInt8.ofNat o :: wl o ver nm := ⟨_, rfl⟩
  have hDl : D.length = 9 + L.length := by rw [hD, hL]; simp [K8.l]; omega
  rw [show (ask3 o ver nm).key = K8.zero from rfl, ← hD] at HB
  have hpt := askPut3_run o ver nm
  obtain ⟨CA, hCA⟩ : ∃ CA, CA = (ask3 o ver nm).cells.toArray := ⟨_, rfl⟩
  rw [← hCA] at HB hpt
  obtain ⟨d, hd⟩ : ∃ d, d = D.length := ⟨_, rfl⟩
  have HD := Lib.hid (And.intro hD (And.intro hDl (And.intro hd hL8)))
  have d1 : (9 : Int) ≤ d := by omega
  have d2 : ¬ (d : Int) < 9 := by omega
  clear hko hW hL hop hD hCA hL8 hDl
  go_upto_region 9 with (first | (go_at_call 15; refine HB.out.mono ?_; intro e w2 hq; obtain ⟨hm, hok, _⟩ := hq; obtain ⟨v2, rfl, ho2⟩ := hok rfl; obtain ⟨A2, c2, rfl, hc2, hr2⟩ := OwnB.open ho2; have H2 := Lib.hid (And.intro hm (And.intro hc2 hr2)); have d3 : ¬ (D.length : Int) < 9 := (by omega); clear hm hok ho2 hc2 hr2) | fail)
  rw [← hd]
  -- three times read
  have hal := askAlloc_run
  have hZs := AskD.size AskD.zero_ok
  have hZo := AskD.one AskD.zero_ok
  have HP2 := Lib.hid (fun W => place_ok W y d (by omega) (by have := HD.out.2.1; have := HD.out.2.2.2; omega))
  have hrw := fun W (hW : Mod No w2 W) => (H2.out.2.2.mono (S' := fun b => b < w2.heap.size) (fun b hb _ => hb)).keeps (hW.keeps (fun _ _ _ f => f))
  obtain ⟨b2, o2, rfl, _, _, _⟩ := (H2.out.2.2).open (by intro e; have := congrArg List.length e; rw [bcells_length, List.length_nil] at this; omega)
  have HR1 : Hid (∀ (W : World) (k : Nat), Mod No w2 W → k < d → Calls Try.prog 7 #[.slice (some ⟨b2, o2, none⟩) k c2] W fun e w' => e = .returned (.tuple #[.agg AskD.zero.cells.toArray, .int .i64 160]) ∧ Mod No W w') := Lib.hid (fun W k hW hk => by
    have hlk : (D.take k).length = k := by rw [List.length_take]; omega
    have hrk : RowAt (fun b => b < W.heap.size) W (some ⟨b2, o2, none⟩) (bcells (D.take k)) := by
      have := (hrw W hW).mono (S' := fun b => b < W.heap.size) (fun b hb _ => hb)
      rw [bcells, List.map_take]
      exact row_take this k
    have := mread_ok (w := W) (c := c2) (D.take k) hrk (by have := H2.out.2.1; omega) (by have := HD.out.2.1; have := HD.out.2.2.2; omega)
    rw [hlk] at this
    refine this.mono fun e w' hq => ⟨hq.2.2 ?_, hq.1⟩
    rw [HD.out.1] at hlk ⊢
    exact cut_bad K8.zero HO.out ver nm HN2.out k (by rw [← HD.out.1, ← hd]; exact hk))
  have HR2 : Hid (∀ (W : World) (A : Option Addr) (c : Nat), RowAt (fun b => b < W.heap.size) W A (bcells (D ++ [0])) → d + 1 ≤ c → Calls Try.prog 7 #[.slice A (d + 1) c] W fun e w' => e = .returned (.tuple #[.agg AskD.zero.cells.toArray, .int .i64 160]) ∧ Mod No W w') := Lib.hid (fun W A c hr hc => by
    have hlk : (D ++ [0]).length = d + 1 := by rw [List.length_append, hd]; rfl
    have := mread_ok (w := W) (c := c) (D ++ [0]) hr (by omega) (by have := HD.out.2.1; have := HD.out.2.2.2; omega)
    rw [hlk] at this
    refine this.mono fun e w' hq => ⟨hq.2.2 ?_, hq.1⟩
    rw [HD.out.1, List.append_assoc, List.cons_append, mread_at _ _ ho8]
    exact more_bad HO.out ver nm HN2.out)
  have HR3 : Hid (∀ (W : World), Mod No w2 W → Calls Try.prog 7 #[.slice (some ⟨b2, o2, none⟩) d c2] W fun e w' => ∃ CA, e = .returned (.tuple #[.agg CA, .int .i64 0]) ∧ CA.size = 75 ∧ CA.all (·.oneCell') = true ∧ Mod No W w') := Lib.hid (fun W hW => by
    have := mread_ok (w := W) (c := c2) D ((hrw W hW).mono (S' := fun b => b < W.heap.size) (fun b hb _ => hb)) H2.out.2.1 (by have := HD.out.2.1; have := HD.out.2.2.2; omega)
    rw [← hd] at this
    refine this.mono fun e w' hq => ?_
    obtain ⟨x, Q, q, e1, e2, e3⟩ := hq.2.1 (by rw [HD.out.1, mread_at _ _ ho8]; exact whole_ok HO.out ver nm HN2.out)
    have hao := MRes.ask_ok (mread D) (mkey D) (mop D) Q q e3
    exact ⟨_, e1, AskD.size hao, AskD.one hao, hq.1⟩)
  have HRW := Lib.hid hrw
  clear hrw hd
  go_upto_region 10 with (first
    | (go_at_call 14; refine (HP2.out _).mono ?_; intro e w3 hq; obtain ⟨k, rfl, hk, rfl⟩ := hq; have k1 : (0 : Int) ≤ k := Int.natCast_nonneg _; have k2 : (k : Int) ≤ d := (by omega); have HKK := Lib.hid hk; have sl1 := slice_head' d c2 k b2 o2 (by have := H2.out.2.1; have := HD.out.2.2.1; omega); clear hk)
    | (go_at_call 7; refine (HR1.out _ _ (Mod.refl _ _) HKK.out).mono ?_; rintro e w4 ⟨rfl, hm4⟩; have hst := askStore_nw w4 _ hZs hZo; have H4 := Lib.hid hm4; clear hm4)
    | fail)
  refine grab_world fun V2 hV2 => ?_
  have hmV2 := H4.out.alloc (.cells AskD.zero.cells.toArray 40)
  rw [← hV2] at hmV2
  obtain ⟨i0, hi, hz0, hz1, hz2⟩ := info_parts infoU8
  have hdl : d ≤ 309 := by have := HD.out.2.1; have := HD.out.2.2.2; have := HD.out.2.2.1; omega
  obtain ⟨v5, W5, hrun1, ho5, hg5, hb5⟩ := run_append_row (P := Try.prog) V2 V2.heap.size 22 0 5 i0 _ 1 1 Try.underlying22 hi hz0 hz1 hz2 rfl (by decide) (.slice none 0 0) 0 [] ⟨rfl, .inl ⟨rfl, rfl⟩⟩ (some ⟨b2, o2, none⟩) d c2 (bcells D) (HRW.out V2 hmV2) (by rw [bcells_length, Nat.mul_one]; exact HD.out.2.2.1.symm) (bcells_one D) (by unfold maxLen; omega) (by omega) (Nat.le_refl _)
  have hm5 : Mod No V2 W5 := (Mod.grown (F := fun _ => False) (Mod.refl _ _) hg5 (fun q hq => by simp [Value.ownBlock] at hq)).mono (fun _ f => f)
  have hm6 : Mod No W5 (W5.alloc (.cells #[.int .u8 0] 5)) := (Mod.refl _ _).alloc _
  rw [Nat.zero_add, List.nil_append] at ho5
  obtain ⟨v7, W7, hrun2, ho7, hg7, hb7⟩ := run_append_row (P := Try.prog) (W5.alloc (.cells #[.int .u8 0] 5)) V2.heap.size 22 0 5 i0 _ 1 1 Try.underlying22 hi hz0 hz1 hz2 rfl (by decide) v5 d (bcells D) (own_mod ho5 hm6 (fun _ _ f => f)) (some ⟨W5.heap.size, 0, none⟩) 1 1 (bcells [0]) (row_new (fun _ => True) W5 [0]) (by rw [bcells_length]; rfl) (bcells_one _) (by unfold maxLen; omega) (by omega) (by have := hm5.size; simp; omega)
  have hm7 : Mod No V2 W7 := (hm5.trans hm6).trans' (F := No) (G := fun b => v5.ownBlock = some b) (Mod.grown (Mod.refl _ _) hg7 (fun q hq => .inr hq)) (fun i hi hgi => by
    rcases ho5.2 with ⟨rfl, _⟩ | ⟨g, _, _, rfl, hge, _⟩
    · simp [Value.ownBlock] at hgi
    · simp [Value.ownBlock] at hgi; omega)
  have ho8' : OwnB W7 V2.heap.size v7 (D ++ [0]) := by
    unfold OwnB
    rw [bcells_append, List.length_append, ← HD.out.2.2.1]
    exact ho7
  obtain ⟨A7, c7, rfl, hc7, hr7⟩ := OwnB.open ho8'
  have hl7 : (D ++ [0]).length = d + 1 := by rw [List.length_append, ← HD.out.2.2.1]; rfl
  rw [hl7] at hrun2 hc7
  have HQ2 := Lib.hid (HR2.out W7 A7 c7 (hr7.mono (fun b hb _ => hb)) hc7)
  have H7 := Lib.hid (And.intro hmV2 hm7)
  clear hV2 hmV2 hi hz0 hz1 hz2 hdl ho5 hg5 hb5 hm5 hm6 ho7 hg7 hb7 hm7 ho8' hc7 hr7 hl7 hst
  go_upto_region 11 with (first
    | (at_builtin; refine Lib.wpList_append_run _ (by rfl) _ _ _ _ (by rfl) _ _ (by rfl) (by rfl) _ _ hrun1 ?_)
    | (at_builtin; refine Lib.wpList_append_run _ (by rfl) _ _ _ _ (by rfl) _ _ (by rfl) (by rfl) _ _ hrun2 ?_)
    | (go_at_call 7; refine HQ2.out.mono ?_; rintro e w8 ⟨rfl, hm8⟩; have hst := askStore_nw w8 _ hZs hZo; have H8 := Lib.hid hm8; clear hm8)
    | fail)
  refine grab_world fun V3 hV3 => ?_
  have hmV3 := H8.out.alloc (.cells AskD.zero.cells.toArray 40)
  rw [← hV3] at hmV3
  have hmw := (H7.out.1.trans H7.out.2).trans hmV3
  have HQ3 := Lib.hid (HR3.out V3 hmw)
  have HM := Lib.hid ((HV.out.trans H2.out.1).trans hmw)
  clear hV3 hmV3 hmw hst hZs hZo
  go_wp2_with (first
    | (go_at_call 7; refine HQ3.out.mono ?_; rintro e w9 ⟨CB, rfl, s1, s2, hm9⟩; have hst := askStore_nw w9 CB s1 s2; have H9 := Lib.hid hm9; clear hm9)
    | fail)
  go_ret
  exact ⟨rfl, (HM.out.trans H9.out).alloc _⟩
end

end Go.Proofs.Ytpkieilmlnlpkaa
