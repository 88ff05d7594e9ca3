/-
  Package cfg: a tenant's bytes, settings' bytes, a change's bytes, as they are handed out.
-/
import Derived.Test.YtcnemhhbihhcfaaCfgW
namespace Go.Proofs.Ytcnemhhbihhcfaa
open Go.RowKit
set_option linter.unusedVariables false

theorem str_size (l : List UInt8) : (str l).size = l.length := by simp [str, ByteArray.size]
theorem take_snoc' {α : Type} {l : List α} {j : Nat} {z : α} (h : l[j]? = some z) : l.take (j + 1) = l.take j ++ [z] := by
  obtain ⟨hlx, ex⟩ := List.getElem?_eq_some_iff.1 h
  rw [List.take_succ_eq_append_getElem hlx, ex]
/-- A value that is so many bytes, its own row above the base. -/
def OwnB (w : World) (base : Nat) (v : Value) (L : List UInt8) : Prop := w.ownsRow base 5 1 v L.length (bcells L)
theorem OwnB.open {w : World} {base : Nat} {v : Value} {L : List UInt8} (h : OwnB w base v L) : ∃ A c, v = .slice A L.length c ∧ L.length ≤ c ∧ RowAt (fun b => base ≤ b) w A (bcells L) := RowAt.of_owns h
theorem OwnB.at {w : World} {base : Nat} {v : Value} {L : List UInt8} (h : OwnB w base v L) (hne : L ≠ []) : ∃ g c, v = .slice (some ⟨g, 0, none⟩) L.length c ∧ base ≤ g ∧ g < w.heap.size ∧ L.length ≤ c ∧ ∀ j u, (bcells L)[j]? = some u → w.cell? ⟨g, j, none⟩ = some u := by
  rcases h.2 with ⟨rfl, h0⟩ | ⟨g, cap, cur, rfl, hb, hg, hn, _⟩
  · exact absurd (List.eq_nil_of_length_eq_zero h0) hne
  · refine ⟨g, cap, rfl, hb, lt_of_block hg, hn, fun j u hj => ?_⟩
    have := h.cells (g := g) rfl j u hj
    rwa [Addr.add_lit, Nat.zero_add] at this
theorem OwnB.mod {F : Nat → Prop} {w w' : World} {base : Nat} {v : Value} {L : List UInt8} (h : OwnB w base v L) (hm : Mod F w w') (hF : ∀ b, base ≤ b → b < w.heap.size → ¬ F b) : OwnB w' base v L :=
  own_mod h hm fun k hk => by
    rcases h.2 with ⟨rfl, _⟩ | ⟨g, cap, cur, rfl, hb, hg, _⟩
    · simp [Value.ownBlock] at hk
    · obtain rfl : g = k := by simpa [Value.ownBlock] using hk
      exact hF g hb (lt_of_block hg)
theorem own_base {w : World} {base base' : Nat} {e : TypeId} {size : Nat} {v : Value} {n : Nat} {xs : List Value} (h : w.ownsRow base e size v n xs) (hb : base' ≤ base) : w.ownsRow base' e size v n xs := by
  refine ⟨h.1, ?_⟩
  rcases h.2 with hn | ⟨g, cap, cur, e, hg, rest⟩
  · exact .inl hn
  · exact .inr ⟨g, cap, cur, e, Nat.le_trans hb hg, rest⟩
theorem own_base_up {w : World} {base base' : Nat} {e : TypeId} {size : Nat} {v : Value} {n : Nat} {xs : List Value} (h : w.ownsRow base e size v n xs) (hb : ∀ g, v.ownBlock = some g → base' ≤ g) : w.ownsRow base' e size v n xs := by
  refine ⟨h.1, ?_⟩
  rcases h.2 with hn | ⟨g, cap, cur, rfl, hg, rest⟩
  · exact .inl hn
  · exact .inr ⟨g, cap, cur, rfl, hb g rfl, rest⟩

theorem wr_new {W : World} {C base : Nat} (h : W.heap[C]? = some (.cells #[.slice none 0 0, .bool false, .int .i64 0, .bool false] 73 (0, 0))) : Wr W C base [] (.slice none 0 0) := ⟨h, rfl, .inl ⟨rfl, rfl⟩⟩

set_option maxRecDepth 100000 in
theorem cfgTenant_ok {w : World} (x : TV) (hr : x.Rows (· < w.heap.size) w) (hok : x.t.Ok) (hnm : x.t.name.length ≤ 100000000) :
    Calls Try.prog 14 #[.agg x.cells.toArray] w fun e w' => ∃ v, e = .returned v ∧ OwnB w' w.heap.size v (wten x.t) ∧ Mod No w w' := by
  obtain ⟨CA, hCA⟩ : ∃ CA, CA = x.cells.toArray := ⟨_, rfl⟩
  rw [← hCA]
  have bA := box_ten CA (by rw [hCA]; rfl)
  obtain ⟨W, hW⟩ : ∃ W, W = (w.alloc (.cells CA 30)).alloc (.cells #[.slice none 0 0, .bool false, .int .i64 0, .bool false] 73) := ⟨_, rfl⟩
  have hmW : Mod No w W := by rw [hW]; exact ((Mod.refl _ _).alloc _).alloc _
  have hX : W.heap[w.heap.size]? = some (.cells CA 30 (0, 0)) := by rw [hW]; exact at20 w _ _
  have hC : W.heap[w.heap.size + 1]? = some (.cells #[.slice none 0 0, .bool false, .int .i64 0, .bool false] 73 (0, 0)) := by rw [hW]; exact at21 w _ _
  have hwr : Wr W (w.heap.size + 1) w.heap.size [] (.slice none 0 0) := wr_new hC
  have hrW : x.Rows (· < w.heap.size) W := hr.keeps (hmW.keeps (fun _ _ _ f => f))
  have HN := tenant_wr hwr hmW.size (by simp) (T := w.heap.size) (o := 0) (pre := []) (post := []) (tt := 30) (t := x.t) (vp := x.vp) (vs := x.vs) (vt := x.vt) (by rw [hX, hCA]; simp [TV.cells]) rfl (by omega) (Nat.le_refl _) (by omega) (by decide) hok hnm hrW
  rw [hW] at HN
  have HN := Lib.hid HN
  have HM := Lib.hid hmW
  rw [hW] at HM
  clear hmW hX hC hwr hW W hrW hr hok hnm hCA
  go_enter Try.func14, Try.ntmps14
  go_wp2_with (first | (go_at_call 35; refine HN.out.mono ?_; rintro e w1 ⟨rfl, v', hw1, _, hm1, hr1⟩; obtain ⟨x1, y1, z1, rfl⟩ := own_slice hw1.own; have d0 : w1.cell? ⟨w.heap.size + 1, 0, none⟩ = some (.slice x1 y1 z1) := (blk_cell hw1.blk 0).trans rfl; have HW := Lib.hid (And.intro hw1 (And.intro hm1 hr1)); clear hw1 hm1 hr1) | fail)
  go_ret
  obtain ⟨hw1, hm1, hr1⟩ := HW.out
  refine ⟨_, rfl, hw1.own, HM.out.trans' hm1 (fun i hi hg => ?_)⟩
  rcases hg with h | h | h
  · omega
  · simp [Value.ownBlock] at h
  · omega

theorem conSize : (Try.prog.info? 48).map (·.size) = some 29 := by kernel_rfl
set_option maxRecDepth 100000 in
theorem box_con (CA : Array Value) (h : CA.size = 29) : ∀ W, (Instr.box 48 (.agg CA)).run Try.prog W = .ok (.pointer (some ⟨W.heap.size, 0, none⟩)) (W.alloc (.cells CA 48)) := by
  intro W
  go_simp
set_option maxRecDepth 100000 in
theorem cfgConfig_ok {w : World} (c : Con) (vt : Value) (l : List TV) (hip : c.ip < 4294967296) (hdr : c.drain < 4294967296) (hrows : ∃ P p, vt = .slice P l.length p ∧ RowAt (· < w.heap.size) w P (tvCells l))
    (hok : ∀ x ∈ l, x.t.Ok ∧ x.t.name.length ≤ 100000000 ∧ x.Rows (· < w.heap.size) w) :
    Calls Try.prog 21 #[.agg (c.cells vt)] w fun e w' => ∃ v, e = .returned v ∧ OwnB w' w.heap.size v (wcon c l) ∧ Mod No w w' := by
  obtain ⟨CA, hCA⟩ : ∃ CA, CA = c.cells vt := ⟨_, rfl⟩
  rw [← hCA]
  have bA := box_con CA (by rw [hCA]; rfl)
  obtain ⟨W, hW⟩ : ∃ W, W = (w.alloc (.cells CA 48)).alloc (.cells #[.slice none 0 0, .bool false, .int .i64 0, .bool false] 73) := ⟨_, rfl⟩
  have hmW : Mod No w W := by rw [hW]; exact ((Mod.refl _ _).alloc _).alloc _
  have hX : W.heap[w.heap.size]? = some (.cells CA 48 (0, 0)) := by rw [hW]; exact at20 w _ _
  have hC : W.heap[w.heap.size + 1]? = some (.cells #[.slice none 0 0, .bool false, .int .i64 0, .bool false] 73 (0, 0)) := by rw [hW]; exact at21 w _ _
  have hwr : Wr W (w.heap.size + 1) w.heap.size [] (.slice none 0 0) := wr_new hC
  have hk : Keeps (· < w.heap.size) w W := hmW.keeps (fun _ _ _ f => f)
  have HN := config_wr (c := c) (vt := vt) (l := l) hwr rfl hmW.size (T := w.heap.size) (by rw [hX, hCA]) (by omega) (by omega) hip hdr (by obtain ⟨P, p, e1, r1⟩ := hrows; exact ⟨P, p, e1, r1.keeps hk⟩) (fun x hx => ⟨(hok x hx).1, (hok x hx).2.1, (hok x hx).2.2.keeps hk⟩)
  rw [hW] at HN
  have HN := Lib.hid HN
  have HM := Lib.hid hmW
  rw [hW] at HM
  clear hmW hX hC hwr hW W hk hrows hok hCA hip hdr
  go_enter Try.func21, Try.ntmps21
  go_wp2_with (first | (go_at_call 38; refine HN.out.mono ?_; rintro e w1 ⟨rfl, v', hw1, hm1, hr1⟩; obtain ⟨x1, y1, z1, rfl⟩ := own_slice hw1.own; have d0 : w1.cell? ⟨w.heap.size + 1, 0, none⟩ = some (.slice x1 y1 z1) := (blk_cell hw1.blk 0).trans rfl; have HW := Lib.hid (And.intro hw1 (And.intro hm1 hr1)); clear hw1 hm1 hr1) | fail)
  go_ret
  obtain ⟨hw1, hm1, hr1⟩ := HW.out
  exact ⟨_, rfl, hw1.own, HM.out.trans' hm1 (fun i hi hg => by omega)⟩

theorem wten_ne (t : Ten) : wten t ≠ [] := by
  intro e
  have := congrArg List.length e
  simp [wten, wfields, nameB', be_length] at this
/-- A change's cells. -/
def cChg (put : Bool) (name : List UInt8) (x : TV) : Array Value := #[.bool put, .string (str name)] ++ x.cells.toArray
theorem cChg_size (put : Bool) (name : List UInt8) (x : TV) : (cChg put name x).size = 35 := by simp [cChg, TV.len]
theorem cChg0 (put : Bool) (name : List UInt8) (x : TV) : (cChg put name x)[0]? = some (.bool put) := by simp [cChg]
theorem cChg1 (put : Bool) (name : List UInt8) (x : TV) : (cChg put name x)[1]? = some (.string (str name)) := by simp [cChg]
theorem cChg2 (put : Bool) (name : List UInt8) (x : TV) (j : Nat) : (cChg put name x)[2 + j]? = x.cells[j]? := by
  rw [cChg, Array.getElem?_append_right (by simp)]; simp
def wchg (put : Bool) (name : List UInt8) (t : Ten) : List UInt8 := if put then 1 :: wten t else 0 :: nameB name
set_option maxRecDepth 100000 in
theorem cfgChange_ok {w : World} (put : Bool) (name : List UInt8) (x : TV) (hr : x.Rows (· < w.heap.size) w) (hok : x.t.Ok) (hnm : x.t.name.length ≤ 100000000) (hn : name.length ≤ 100000000) :
    Calls Try.prog 15 #[.agg (cChg put name x)] w fun e w' => ∃ v, e = .returned v ∧ OwnB w' w.heap.size v (wchg put name x.t) ∧ Mod No w w' := by
  cases put with
  | false =>
    refine (change_name_ok (cChg false name x) (cChg_size _ _ _) name hn (cChg0 _ _ _) (cChg1 _ _ _)).mono fun e w' ⟨v, e1, e2, e3⟩ => ⟨v, e1, e2, e3⟩
  | true =>
    obtain ⟨CA, hCA⟩ : ∃ CA, CA = cChg true name x := ⟨_, rfl⟩
    rw [← hCA]
    have bA := box_chg CA (by rw [hCA]; exact cChg_size _ _ _)
    obtain ⟨W, hW⟩ : ∃ W, W = (w.alloc (.cells CA 38)).alloc (.cells #[.int .u8 1] 5) := ⟨_, rfl⟩
    have hmW : Mod No w W := by rw [hW]; exact ((Mod.refl _ _).alloc _).alloc _
    have hX : W.heap[w.heap.size]? = some (.cells CA 38 (0, 0)) := by rw [hW]; exact at20 w _ _
    have hR : W.heap[w.heap.size + 1]? = some (.cells #[.int .u8 1] 5 (0, 0)) := by rw [hW]; exact at21 w _ _
    have hc0 : CA[0]? = some (.bool true) := by rw [hCA]; exact cChg0 _ _ _
    have hld := tenLoad_mid W w.heap.size 2 x.cells rfl (fun j v hj => by
      rw [blk_cell hX, hCA, cChg2]
      exact hj)
    have HT := cfgTenant_ok (w := W) x ((hr.keeps (hmW.keeps (fun _ _ _ f => f))).imp (fun b hb => Nat.lt_of_lt_of_le hb hmW.size)) hok hnm
    obtain ⟨TA, hTA⟩ : ∃ TA, TA = x.cells.toArray := ⟨_, rfl⟩
    rw [← hTA] at HT hld
    rw [hW] at HT hld
    have HT := Lib.hid HT
    have HM := Lib.hid hmW
    have HR := Lib.hid hR
    rw [hW] at HM HR
    obtain ⟨i0, hi, hz0, hz1, hz2⟩ := info_parts infoU8
    have HL := Lib.hid (wten_len x.t)
    have HNE := Lib.hid (wten_ne x.t)
    have c0 : ((w.alloc (.cells CA 38))).cell? ⟨w.heap.size, 0, none⟩ = some (.bool true) := (blk_cell (at10 w _) 0).trans hc0
    clear hmW hX hR hW W hr hok hnm hCA hTA hc0
    go_enter Try.func15, Try.ntmps15
    obtain ⟨X, hX⟩ : ∃ X, X = wten x.t := ⟨_, rfl⟩
    rw [← hX] at HT HL HNE
    have hw : wchg true name x.t = 1 :: X := by rw [hX]; rfl
    rw [hw]
    clear hX hw
    go_wp2_with (first
      | (go_at_call 14; refine HT.out.mono ?_; rintro e w1 ⟨v', rfl, ho1, hm1⟩; obtain ⟨g1, c1, rfl, hg1, hg2, hg3, hc1⟩ := OwnB.at ho1 HNE.out
         have hR1 := hm1.obj HR.out id
         have hown : w1.ownsRow w.heap.size 5 1 (.slice (some ⟨w.heap.size + 1, 0, none⟩) 1 1) 1 (bcells [1]) := ⟨rfl, .inr ⟨w.heap.size + 1, 1, #[.int .u8 1], rfl, by omega, hR1, Nat.le_refl _, by decide, rfl, rfl⟩⟩
         have HW := Lib.hid (And.intro hm1 (And.intro hc1 hown)); clear ho1 hm1 hc1 hR1 hown)
      | (at_builtin; refine wpList_append_own_at _ (by rfl) _ _ 34 (by rfl) w.heap.size 5 i0 _ 1 1 Try.underlying34 hi hz0 hz1 hz2 rfl (by decide) _ 1 (bcells [1]) (by rfl) HW.out.2.2 ⟨g1, 0, none⟩ X.length c1 (bcells X) (by rfl) (by rw [bcells_length, Nat.mul_one]) (fun j u hj => by rw [Addr.add_lit, Nat.zero_add]; exact HW.out.2.1 j u hj) (bcells_one X) (by have := HL.out; unfold maxLen; omega) (by have := HL.out; omega) (by have := HM.out.size; have := HW.out.1.size; omega) ?_
         intro v2 w2 own2 hg2' _ hrow2; have H2 := Lib.hid (And.intro own2 (And.intro hg2' hrow2)); clear own2 hg2' hrow2)
      | fail)
    go_ret
    obtain ⟨o2, gr2, rr2⟩ := H2.out
    refine ⟨v2, rfl, ?_, ?_⟩
    · unfold OwnB
      rw [← bcells_append] at o2
      rw [List.length_cons, Nat.add_comm]
      exact o2
    · have m1 : Mod No w w1 := HM.out.trans HW.out.1
      refine m1.trans' (F := No) (G := fun k => k = w.heap.size + 1) (Mod.grown (Mod.refl _ _) gr2 (fun k hk => .inr ?_)) (fun i hi hg => by omega)
      simpa [Value.ownBlock] using hk.symm

end Go.Proofs.Ytcnemhhbihhcfaa
