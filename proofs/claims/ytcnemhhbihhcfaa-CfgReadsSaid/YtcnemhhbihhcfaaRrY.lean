/-
  RrF, RrG, RrH, RrI, LawR in one text (merge.py).
-/
import Derived.Test.YtcnemhhbihhcfaaRrX
import Derived.Test.YtcnemhhbihhcfaaLawB
namespace Go.Proofs.Ytcnemhhbihhcfaa
open Go.RowKit
set_option linter.unusedVariables false
set_option linter.unusedSimpArgs false

/-! ### RrF -/
/-- The state of the reference's 'OpenConfig': the result's block, the reader's, the settings', the first that are new. -/
structure RK (w : World) (A : Option Addr) (c : Nat) (B : List UInt8) (cc : Con) (s : St) (vt : Value) (W : World) : Prop where
  rd : W.heap[w.heap.size + 1]? = some (rrObj A B.length c s.1 s.2)
  le : s.1 ≤ B.length
  con : W.heap[w.heap.size + 2]? = some (.cells (cc.cells vt) 48 (0, 0))
  res : W.heap[w.heap.size]? = some (.cells zCon 48 (0, 0))
  row : RowAt (fun b => b < w.heap.size) W A (bcells B)
  mod : Mod No w W
  sz : w.heap.size + 3 ≤ W.heap.size
  hc : B.length ≤ c
  hB : B.length ≤ 100000000
section
variable {w : World} {A : Option Addr} {c : Nat} {B : List UInt8} {cc : Con} {s : St} {vt : Value} {W : World}
theorem RK.call (h : RK w A c B cc s vt W) {W' : World} (hm : Mod (fun b => b = w.heap.size + 1) W W') {s' : St} (hrd : W'.heap[w.heap.size + 1]? = some (rrObj A B.length c s'.1 s'.2)) (hle : s'.1 ≤ B.length) : RK w A c B cc s' vt W' :=
  ⟨hrd, hle, hm.obj h.con (by omega), hm.obj h.res (by omega), h.row.keeps (hm.keeps (fun b _ hb f => by omega)), h.mod.trans' hm (fun i hi f => by omega), Nat.le_trans h.sz hm.size, h.hc, h.hB⟩
theorem RK.keep (h : RK w A c B cc s vt W) {W' : World} {F : Nat → Prop} (hm : Mod F W W') (hF : ∀ b, F b → w.heap.size + 3 ≤ b) : RK w A c B cc s vt W' := by
  refine ⟨hm.obj h.rd (fun f => ?_), h.le, hm.obj h.con (fun f => ?_), hm.obj h.res (fun f => ?_), h.row.keeps (hm.keeps (fun b _ hb f => ?_)), h.mod.trans' hm (fun i hi f => ?_), Nat.le_trans h.sz hm.size, h.hc, h.hB⟩ <;> (have := hF _ f; omega)
theorem RK.into (h : RK w A c B cc s vt W) {W' : World} (hm : Mod (fun b => b = w.heap.size + 2) W W') {cc' : Con} {s' : St} {vt' : Value} (ht : W'.heap[w.heap.size + 2]? = some (.cells (cc'.cells vt') 48 (0, 0))) (hs : s' = s) : RK w A c B cc' s' vt' W' := by
  subst hs
  exact ⟨hm.obj h.rd (by omega), h.le, ht, hm.obj h.res (by omega), h.row.keeps (hm.keeps (fun b _ hb f => by omega)), h.mod.trans' hm (fun i hi f => by omega), Nat.le_trans h.sz hm.size, h.hc, h.hB⟩
theorem RK.set (h : RK w A c B cc s vt W) (o : Nat) (V : Value) {cc' : Con} {s' : St} {vt' : Value} (he : (cc.cells vt).setIfInBounds o V = cc'.cells vt') (hs : s' = s) : RK w A c B cc' s' vt' (W.setCell ⟨w.heap.size + 2, o, none⟩ V) :=
  h.into (Mod.setCell (p := ⟨w.heap.size + 2, o, none⟩) (Mod.refl (fun b => b = w.heap.size + 2) W) (.inr rfl) V) (by rw [heap_setCell_row h.con, he]) hs
theorem RK.spl (h : RK w A c B cc s vt W) (o : Nat) (xs : List Value) {cc' : Con} {s' : St} {vt' : Value} (he : (splice (cc.cells vt).toList o xs).toArray = cc'.cells vt') (hs : s' = s) : RK w A c B cc' s' vt' (W.setRow (w.heap.size + 2) (splice (cc.cells vt).toList o xs).toArray) :=
  h.into (setRow_mod _) (by rw [setRow_heap _ _ _ _ _ _ h.con, he]) hs
theorem RK.cell (h : RK w A c B cc s vt W) (o : Nat) (ho : o < 29) : W.frozen? ⟨w.heap.size + 2, o, none⟩ = false ∧ ∃ u, W.cell? ⟨w.heap.size + 2, o, none⟩ = some u :=
  ⟨blk_free h.con o, _, (blk_cell h.con o).trans (Array.getElem?_eq_getElem (by rw [con_size]; exact ho))⟩
theorem RK.num (h : RK w A c B cc s vt W) (k : Nat) (hk : k ≤ 7) (o : Nat) (ho : o < 29) : Calls Try.prog 43 #[.pointer (some ⟨w.heap.size + 1, 0, none⟩), .int .i64 k] W fun e w' => e = .returned (.int .u64 ((rnum B k s).1 : Nat)) ∧ RK w A c B cc (rnum B k s).2 vt w' ∧ w'.frozen? ⟨w.heap.size + 2, o, none⟩ = false ∧ ∃ u, w'.cell? ⟨w.heap.size + 2, o, none⟩ = some u := by
  refine (rr_n B h.rd h.row h.le h.hc h.hB k hk (by omega)).mono ?_
  rintro e w' ⟨he, hb, hm⟩
  have h' := h.call hm hb (rnum_le B k s h.le)
  exact ⟨he, h', h'.cell o ho⟩
theorem RK.mac (h : RK w A c B cc s vt W) (o : Nat) (ho : o + 6 ≤ 29) : Calls Try.prog 44 #[.pointer (some ⟨w.heap.size + 1, 0, none⟩)] W fun e w' => e = .returned (.agg (bcells (M6.of (rtake B s 6).1).l).toArray) ∧ RK w A c B cc (rtake B s 6).2 vt w' ∧
    (macStore (.pointer (some ⟨w.heap.size + 2, o, none⟩)) (.agg (bcells (M6.of (rtake B s 6).1).l).toArray)).run Try.prog w' = .ok () (w'.setRow (w.heap.size + 2) (splice (cc.cells vt).toList o (bcells (M6.of (rtake B s 6).1).l)).toArray) := by
  refine (rr_mac B h.rd h.row h.le h.hc h.hB (by omega)).mono ?_
  rintro e w' ⟨he, hb, hm⟩
  have h' := h.call hm hb (rtake_le B s 6 h.le)
  exact ⟨he, h', macStore_run _ h'.con (by rw [con_size]; exact ho)⟩
theorem RK.key (h : RK w A c B cc s vt W) (o : Nat) (ho : o + 8 ≤ 29) : Calls Try.prog 45 #[.pointer (some ⟨w.heap.size + 1, 0, none⟩)] W fun e w' => e = .returned (.agg (bcells (K8.of (rtake B s 8).1).l).toArray) ∧ RK w A c B cc (rtake B s 8).2 vt w' ∧
    (keyStore (.pointer (some ⟨w.heap.size + 2, o, none⟩)) (.agg (bcells (K8.of (rtake B s 8).1).l).toArray)).run Try.prog w' = .ok () (w'.setRow (w.heap.size + 2) (splice (cc.cells vt).toList o (bcells (K8.of (rtake B s 8).1).l)).toArray) := by
  refine (rr_key B h.rd h.row h.le h.hc h.hB (by omega)).mono ?_
  rintro e w' ⟨he, hb, hm⟩
  have h' := h.call hm hb (rtake_le B s 8 h.le)
  exact ⟨he, h', keyStore_run _ h'.con (by rw [con_size]; exact ho)⟩
theorem RK.ten (h : RK w A c B cc s vt W) : Calls Try.prog 46 #[.pointer (some ⟨w.heap.size + 1, 0, none⟩)] W fun e w' => ∃ x : TV, e = .returned (.agg x.cells.toArray) ∧ x.t = (rten B s).1 ∧ x.Rows (fun b => W.heap.size ≤ b) w' ∧ RK w A c B cc (rten B s).2 vt w' ∧ Mod (fun b => b = w.heap.size + 1) W w' := by
  refine (rr_tenant B h.rd h.row h.le h.hc h.hB (by omega) (fun b hb => by have := h.sz; omega)).mono ?_
  rintro e w' ⟨x, he, hx, hr, hb, hm⟩
  exact ⟨x, he, hx, hr, h.call hm hb (rten_le B s h.le), hm⟩
end

/-! ### RrG -/
set_option maxRecDepth 100000 in
set_option maxHeartbeats 4000000 in
theorem refOpenConfig_ok {w : World} {A : Option Addr} {c : Nat} (B : List UInt8) (hrow : RowAt (fun b => b < w.heap.size) w A (bcells B)) (hc : B.length ≤ c) (hB : B.length ≤ 100000000) :
    Calls Try.prog 26 #[.slice A B.length c] w (OpenConP (ocf B) w) := by
  obtain ⟨s, hs⟩ : ∃ s : St, s = (0, false) := ⟨_, rfl⟩
  have hT0 : RK w A c B .zero s nilv (((w.alloc (.cells zCon 48)).alloc (.cells #[.slice A B.length c, .int .i64 0, .bool false] 86)).alloc (.cells zCon 48)) := by
    have hm : Mod No w (((w.alloc (.cells zCon 48)).alloc (.cells #[.slice A B.length c, .int .i64 0, .bool false] 86)).alloc (.cells zCon 48)) := (((Mod.refl _ _).alloc _).alloc _).alloc _
    exact ⟨by rw [hs]; exact at31 w _ _ _, by rw [hs]; exact Nat.zero_le _, at32 w _ _ _, at30 w _ _ _, hrow.keeps (hm.keeps (fun _ _ _ f => f)), hm, by simp, hc, hB⟩
  have HTZ := Lib.hid hT0
  have hal := conAlloc_run
  have htal := tenAlloc_run
  have hzr := conZero_run
  obtain ⟨r0, hr0⟩ : ∃ r, r = ck B s 0 := ⟨_, rfl⟩
  have HR0 := Lib.hid hr0
  have HS := Lib.hid hs
  obtain ⟨i0, hi, hz0, hz1, hz2⟩ := info_parts infoTen
  have HZ0 := Lib.hid hz0
  obtain ⟨n0, hn0⟩ : ∃ n0, n0 = B.length := ⟨_, rfl⟩
  have HN0 := Lib.hid hn0
  rw [← hn0]
  clear hT0 hrow hc hB hr0 hz0 hs hn0
  go_enter Try.func26, Try.ntmps26
  go_upto_region 3 with fail
  refine grab_world fun W0 hW0 => ?_
  have hT0 : RK w A c B r0.c r0.s nilv W0 := by rw [hW0, HR0.out, HN0.out]; exact HTZ.out
  have HT0 := Lib.hid hT0
  clear hT0 hW0 HTZ hal
  -- 0: ('n', 4, 0, 'ip', 'u32')
  have hk0 := HT0.out.num 4 (by omega) 0 (by omega)
  obtain ⟨x0, hx0⟩ : ∃ x, x = (rnum B 4 r0.s).1 := ⟨_, rfl⟩
  rw [← hx0] at hk0
  have e0 := wrap_u32 (n := x0) (by rw [hx0]; exact rnum_lt B 4 _)
  have HC0 := Lib.hid hk0
  have HX0 := Lib.hid hx0
  clear hk0 hx0
  go_upto_region 4 with (first | (go_at_call 43; refine HC0.out.mono ?_; rintro e v0 ⟨rfl, rt, fz, u0, cu⟩; have HN0 := Lib.hid rt; clear rt) | fail)
  refine grab_world fun W1 hW1 => ?_
  obtain ⟨r1, hr1⟩ : ∃ r : CS, r = { r0 with c := { r0.c with ip := x0 }, s := (rnum B 4 r0.s).2 } := ⟨_, rfl⟩
  have hT1 : RK w A c B r1.c r1.s nilv W1 := by rw [hW1, hr1]; exact HN0.out.set 0 _ rfl rfl
  have HR1 := Lib.hid (show r1 = ck B s 1 by rw [hr1, HX0.out, HR0.out]; rfl)
  have HT1 := Lib.hid hT1
  clear hT1 hW1 HC0 HN0 HT0 fz cu e0 hr1 HR0 HX0
  -- 1: ('mac', 1, 'mac')
  have hk1 := HT1.out.mac 1 (by omega)
  obtain ⟨x1, hx1⟩ : ∃ x, x = M6.of (rtake B r1.s 6).1 := ⟨_, rfl⟩
  rw [← hx1] at hk1
  obtain ⟨a1, ha1⟩ : ∃ a, a = (bcells x1.l).toArray := ⟨_, rfl⟩
  obtain ⟨b1, hb1⟩ : ∃ b, b = (splice (r1.c.cells nilv).toList 1 (bcells x1.l)).toArray := ⟨_, rfl⟩
  rw [← ha1, ← hb1] at hk1
  have HC1 := Lib.hid hk1
  have HX1 := Lib.hid (And.intro hx1 hb1)
  clear hk1 hx1 ha1 hb1
  go_upto_region 5 with (first | (go_at_call 44; refine HC1.out.mono ?_; rintro e v1 ⟨rfl, rt, fz⟩; have HN1 := Lib.hid rt; clear rt) | fail)
  refine grab_world fun W2 hW2 => ?_
  obtain ⟨r2, hr2⟩ : ∃ r : CS, r = { r1 with c := { r1.c with mac := x1 }, s := (rtake B r1.s 6).2 } := ⟨_, rfl⟩
  have hT2 : RK w A c B r2.c r2.s nilv W2 := by rw [hW2, hr2, HX1.out.2]; exact HN1.out.spl 1 _ rfl rfl
  have HR2 := Lib.hid (show r2 = ck B s 2 by rw [hr2, HX1.out.1, HR1.out]; rfl)
  have HT2 := Lib.hid hT2
  clear hT2 hW2 HC1 HN1 HT1 fz hr2 HR1 HX1
  -- 2: ('mac', 7, 'omac')
  have hk2 := HT2.out.mac 7 (by omega)
  obtain ⟨x2, hx2⟩ : ∃ x, x = M6.of (rtake B r2.s 6).1 := ⟨_, rfl⟩
  rw [← hx2] at hk2
  obtain ⟨a2, ha2⟩ : ∃ a, a = (bcells x2.l).toArray := ⟨_, rfl⟩
  obtain ⟨b2, hb2⟩ : ∃ b, b = (splice (r2.c.cells nilv).toList 7 (bcells x2.l)).toArray := ⟨_, rfl⟩
  rw [← ha2, ← hb2] at hk2
  have HC2 := Lib.hid hk2
  have HX2 := Lib.hid (And.intro hx2 hb2)
  clear hk2 hx2 ha2 hb2
  go_upto_region 6 with (first | (go_at_call 44; refine HC2.out.mono ?_; rintro e v2 ⟨rfl, rt, fz⟩; have HN2 := Lib.hid rt; clear rt) | fail)
  refine grab_world fun W3 hW3 => ?_
  obtain ⟨r3, hr3⟩ : ∃ r : CS, r = { r2 with c := { r2.c with omac := x2 }, s := (rtake B r2.s 6).2 } := ⟨_, rfl⟩
  have hT3 : RK w A c B r3.c r3.s nilv W3 := by rw [hW3, hr3, HX2.out.2]; exact HN2.out.spl 7 _ rfl rfl
  have HR3 := Lib.hid (show r3 = ck B s 3 by rw [hr3, HX2.out.1, HR2.out]; rfl)
  have HT3 := Lib.hid hT3
  clear hT3 hW3 HC2 HN2 HT2 fz hr3 HR2 HX2
  -- 3: ('mac', 13, 'nmac')
  have hk3 := HT3.out.mac 13 (by omega)
  obtain ⟨x3, hx3⟩ : ∃ x, x = M6.of (rtake B r3.s 6).1 := ⟨_, rfl⟩
  rw [← hx3] at hk3
  obtain ⟨a3, ha3⟩ : ∃ a, a = (bcells x3.l).toArray := ⟨_, rfl⟩
  obtain ⟨b3, hb3⟩ : ∃ b, b = (splice (r3.c.cells nilv).toList 13 (bcells x3.l)).toArray := ⟨_, rfl⟩
  rw [← ha3, ← hb3] at hk3
  have HC3 := Lib.hid hk3
  have HX3 := Lib.hid (And.intro hx3 hb3)
  clear hk3 hx3 ha3 hb3
  go_upto_region 7 with (first | (go_at_call 44; refine HC3.out.mono ?_; rintro e v3 ⟨rfl, rt, fz⟩; have HN3 := Lib.hid rt; clear rt) | fail)
  refine grab_world fun W4 hW4 => ?_
  obtain ⟨r4, hr4⟩ : ∃ r : CS, r = { r3 with c := { r3.c with nmac := x3 }, s := (rtake B r3.s 6).2 } := ⟨_, rfl⟩
  have hT4 : RK w A c B r4.c r4.s nilv W4 := by rw [hW4, hr4, HX3.out.2]; exact HN3.out.spl 13 _ rfl rfl
  have HR4 := Lib.hid (show r4 = ck B s 4 by rw [hr4, HX3.out.1, HR3.out]; rfl)
  have HT4 := Lib.hid hT4
  clear hT4 hW4 HC3 HN3 HT3 fz hr4 HR3 HX3
  -- 4: ('key', 19, 'key')
  have hk4 := HT4.out.key 19 (by omega)
  obtain ⟨x4, hx4⟩ : ∃ x, x = K8.of (rtake B r4.s 8).1 := ⟨_, rfl⟩
  rw [← hx4] at hk4
  obtain ⟨a4, ha4⟩ : ∃ a, a = (bcells x4.l).toArray := ⟨_, rfl⟩
  obtain ⟨b4, hb4⟩ : ∃ b, b = (splice (r4.c.cells nilv).toList 19 (bcells x4.l)).toArray := ⟨_, rfl⟩
  rw [← ha4, ← hb4] at hk4
  have HC4 := Lib.hid hk4
  have HX4 := Lib.hid (And.intro hx4 hb4)
  clear hk4 hx4 ha4 hb4
  go_upto_region 8 with (first | (go_at_call 45; refine HC4.out.mono ?_; rintro e v4 ⟨rfl, rt, fz⟩; have HN4 := Lib.hid rt; clear rt) | fail)
  refine grab_world fun W5 hW5 => ?_
  obtain ⟨r5, hr5⟩ : ∃ r : CS, r = { r4 with c := { r4.c with key := x4 }, s := (rtake B r4.s 8).2 } := ⟨_, rfl⟩
  have hT5 : RK w A c B r5.c r5.s nilv W5 := by rw [hW5, hr5, HX4.out.2]; exact HN4.out.spl 19 _ rfl rfl
  have HR5 := Lib.hid (show r5 = ck B s 5 by rw [hr5, HX4.out.1, HR4.out]; rfl)
  have HT5 := Lib.hid hT5
  clear hT5 hW5 HC4 HN4 HT4 fz hr5 HR4 HX4
  -- 5: ('n', 4, 27, 'drain', 'u32')
  have hk5 := HT5.out.num 4 (by omega) 27 (by omega)
  obtain ⟨x5, hx5⟩ : ∃ x, x = (rnum B 4 r5.s).1 := ⟨_, rfl⟩
  rw [← hx5] at hk5
  have e5 := wrap_u32 (n := x5) (by rw [hx5]; exact rnum_lt B 4 _)
  have HC5 := Lib.hid hk5
  have HX5 := Lib.hid hx5
  clear hk5 hx5
  go_upto_region 9 with (first | (go_at_call 43; refine HC5.out.mono ?_; rintro e v5 ⟨rfl, rt, fz, u5, cu⟩; have HN5 := Lib.hid rt; clear rt) | fail)
  refine grab_world fun W6 hW6 => ?_
  obtain ⟨r6, hr6⟩ : ∃ r : CS, r = { r5 with c := { r5.c with drain := x5 }, s := (rnum B 4 r5.s).2 } := ⟨_, rfl⟩
  have hT6 : RK w A c B r6.c r6.s nilv W6 := by rw [hW6, hr6]; exact HN5.out.set 27 _ rfl rfl
  have HR6 := Lib.hid (show r6 = ck B s 6 by rw [hr6, HX5.out, HR5.out]; rfl)
  have HT6 := Lib.hid hT6
  clear hT6 hW6 HC5 HN5 HT5 fz cu e5 hr6 HR5 HX5
  -- 6: ('c', 'nt')
  have hk6 := HT6.out.num 1 (by omega) 0 (by omega)
  obtain ⟨x6, hx6⟩ : ∃ x, x = (rnum B 1 r6.s).1 := ⟨_, rfl⟩
  rw [← hx6] at hk6
  have e6 := wrap_i64 (n := x6) (Nat.lt_of_lt_of_le (by rw [hx6]; exact rnum_lt B 1 _) (by decide))
  have hy6 : x6 < 256 := by rw [hx6]; exact rnum_lt B 1 _
  have HC6 := Lib.hid hk6
  have HX6 := Lib.hid hx6
  clear hk6 hx6
  go_upto_region 10 with (first | (go_at_call 43; refine HC6.out.mono ?_; rintro e v6 ⟨rfl, rt, fz, u6, cu⟩; have HN6 := Lib.hid rt; clear rt) | fail)
  refine grab_world fun W7 hW7 => ?_
  obtain ⟨r7, hr7⟩ : ∃ r : CS, r = { r6 with nt := x6, s := (rnum B 1 r6.s).2 } := ⟨_, rfl⟩
  have hT7 : RK w A c B r7.c r7.s nilv W7 := by rw [hW7, hr7]; exact HN6.out
  have HR7 := Lib.hid (show r7 = ck B s 7 by rw [hr7, HX6.out, HR6.out]; rfl)
  have HT7 := Lib.hid hT7
  have HY6 := Lib.hid (And.intro (show r7.nt = x6 by rw [hr7]) hy6)
  clear hT7 hW7 HC6 HN6 HT6 fz cu e6 hy6 hr7 HR6 HX6
  -- the tenants
  have hx6 := HY6.out.2
  go_wp2
  go_loopw [7] (fun i wr => ∃ (j : Nat) (acc : List TV) (s' : St) (v : Value), i = .int .i64 j ∧ j ≤ x6 ∧ acc.length ≤ j ∧ rmany (rten B) x6 r7.s = (acc.map (·.t) ++ (rmany (rten B) (x6 - j) s').1, (rmany (rten B) (x6 - j) s').2) ∧
    RK w A c B r7.c s' v wr ∧ TVs wr (w.heap.size + 3) v acc) (fun i _ => x6 - (intOf i).toNat)
  case atStart => exact ⟨0, [], r7.s, nilv, rfl, by omega, by simp, by simp, HT7.out, ⟨⟨rfl, .inl ⟨rfl, rfl⟩⟩, by simp⟩⟩
  case round =>
    obtain ⟨j, acc, s', v, rfl, hj, hacc, hsp, hrt, htv⟩ := hrel
    have d2 := blk_cell hrt.rd 2
    have d1 := blk_cell hrt.rd 1
    simp at d2 d1
    by_cases hlt : j < x6
    · have p1 : (0:Int) ≤ j := by omega
      have p2 : (j:Int) < x6 := by omega
      obtain ⟨at_, sh⟩ := s'
      cases sh
      · have hc1 := hrt.ten
        have hnx : x6 - j = (x6 - (j + 1)) + 1 := by omega
        rw [hnx, rmany_step _ _ rfl] at hsp
        obtain ⟨y, hy⟩ : ∃ y, y = (rten B (at_, false)).1 := ⟨_, rfl⟩
        obtain ⟨s2, hs2⟩ : ∃ s2, s2 = (rten B (at_, false)).2 := ⟨_, rfl⟩
        rw [← hy, ← hs2] at hc1 hsp
        have hown := htv.own
        have hob : ∀ k, v.ownBlock = some k → w.heap.size + 3 ≤ k := by
          intro k hk
          rcases hown.2 with ⟨rfl, _⟩ | ⟨g, cap, cur, rfl, hg, _⟩
          · simp [Value.ownBlock] at hk
          · obtain rfl : g = k := by simpa [Value.ownBlock] using hk
            exact hg
        have hsz := hrt.sz
        have HC1 := Lib.hid hc1
        have HR := Lib.hid (And.intro hsp (And.intro htv (And.intro hob (And.intro hsz hrt))))
        have hacc8 : acc.length ≤ 1000 := by omega
        have HA8 := Lib.hid hacc8
        clear hc1 hsp hy hs2 hown hob hsz hacc8 hrt htv d1
        go_upto_region 14 with (first
          | (go_at_call 46; refine HC1.out.mono ?_; rintro e w5 ⟨x, rfl, k0, kr, rt, m5⟩; obtain ⟨TA, hTA⟩ : ∃ TA, TA = x.cells.toArray := ⟨_, rfl⟩; have hTs : TA.size = 33 := (by rw [hTA]; rfl); have h1 : TA.all (·.oneCell') = true := (by rw [hTA]; exact TV.one kr); have hst0 := tenStore_new w5 TA hTs h1; rw [← hTA]; have HK5 := Lib.hid (And.intro k0 (And.intro kr (And.intro rt (And.intro m5 (And.intro hTA (And.intro hTs h1)))))); clear k0 kr rt m5 hTA hTs h1)
          | fail)
        have hbs : ∀ W : World, (tenSlice (.agg TA)).run Try.prog W = .ok (.slice (some ⟨W.heap.size, 0, none⟩) 1 1) (W.alloc (.cells TA 30)) := ten_build TA HK5.out.2.2.2.2.2.1
        have hld : (tenLoad (.pointer (some ⟨w5.heap.size, 0, none⟩))).run Try.prog (w5.alloc (.cells TA 30)) = .ok (.agg TA) (w5.alloc (.cells TA 30)) := tenLoad_run (at10 w5 _) HK5.out.2.2.2.2.2.1
        have dT5 : w5.cell? ⟨w.heap.size + 2, 28, none⟩ = some v := (blk_cell HK5.out.2.2.1.con 28).trans rfl
        have lT5 : w.heap.size + 2 < w5.heap.size := by have := HK5.out.2.2.1.sz; omega
        have hown5 : w5.ownsRow (w.heap.size + 3) 30 33 v acc.length (tvCells acc) := own_mod HR.out.2.1.own HK5.out.2.2.2.1 (fun k hk f => by have := HR.out.2.2.1 k hk; omega)
        have HO5 := Lib.hid hown5
        clear hown5
        go_wp2_with (first
          | (at_builtin; (refine wpList_append_lies _ (by rfl) _ _ 46 (by rfl) (w.heap.size + 3) 30 i0 _ 33 160 Try.underlying46 hi HZ0.out hz1 hz2 (by rfl) (by decide) v acc.length (tvCells acc) (by rfl) ?_ _ _ _ TA.toList (by rfl) ?_ ?_ ?_ (by decide) ?_ ?_ ?_ _ (by rfl) ?_; (exact own_mod HO5.out (by repeat (first | with_reducible exact Mod.refl _ _ | refine Mod.alloc ?_ _ | refine Mod.drew ?_)) (fun _ _ f => f)); (have := HK5.out.2.2.2.2.2.1; simpa using this); (first | exact World.news_of_block (at21 _ _ _) | exact World.news_of_block (at10 _ _)); (intro u hu; exact (Array.all_eq_true_iff_forall_mem.1 HK5.out.2.2.2.2.2.2) u (by simpa using hu)); (have := HA8.out; unfold maxLen; omega); (have := HA8.out; omega); (have := HK5.out.2.2.1.sz; simp; omega); intro g cap w6 own6 gr6 hat6 hlt6; have m6 : Mod (fun b => v.ownBlock = some b) w5 w6 := Mod.grown (((Mod.refl _ w5)).mono (fun _ f => f) |> (fun h => by repeat (first | with_reducible exact h | refine Mod.alloc ?_ _ | refine Mod.drew ?_))) gr6 (fun k hk => .inr hk); have rt6 := HK5.out.2.2.1.keep m6 (fun b f => HR.out.2.2.1 b f); have fT6 := blk_free rt6.con 28; have dT6 : w6.cell? ⟨w.heap.size + 2, 28, none⟩ = some v := (blk_cell rt6.con 28).trans rfl; have H6 := Lib.hid (And.intro own6 (And.intro m6 (And.intro hat6 rt6))); clear own6 m6 hat6 gr6 rt6))
          | fail)
        have hsz5 := HK5.out.2.2.1.sz
        have hm5 := HK5.out.2.2.2.1
        have hszr := hm5.size
        have hg6 : v.ownBlock = some g ∨ w5.heap.size ≤ g := by
          rcases H6.out.2.2.1 with f | f
          · exact .inl f
          · right; simp at f; omega
        have hgT : g ≠ w.heap.size + 2 := fun e => by
          rcases hg6 with f | f
          · have := HR.out.2.2.1 g f; omega
          · omega
        have hk0 := HK5.out.1
        have htl : x.cells = TA.toList := by rw [HK5.out.2.2.2.2.1]
        refine ⟨⟨j + 1, acc ++ [x], s2, .slice (some ⟨g, 0, none⟩) (acc.length + 1) cap, by go_num, by omega, by simp; omega, ?_, ?_, ⟨?_, ?_⟩⟩, by simp [intOf]; omega⟩
        · rw [HR.out.1]; simp [hk0]
        · exact H6.out.2.2.2.set 28 _ rfl rfl
        · refine own_mod (F := fun b => b = w.heap.size + 2) ?_ (Mod.setCell (p := ⟨w.heap.size + 2, 28, none⟩) (Mod.refl (fun b => b = w.heap.size + 2) w6) (.inr rfl) _) (fun k hk f => ?_)
          · have := H6.out.1
            rw [← htl] at this
            simpa [tvCells] using this
          · subst f
            exact hgT (by simpa [Value.ownBlock] using hk)
        · have hk6 : ∀ S' : Nat → Prop, (∀ b, S' b → v.ownBlock ≠ some b ∧ b ≠ w.heap.size + 2) → Keeps S' w5 (w6.setCell ⟨w.heap.size + 2, 28, none⟩ (.slice (some ⟨g, 0, none⟩) (acc.length + 1) cap)) := fun S' hS' => by
            refine Mod.keeps (F := fun b => v.ownBlock = some b ∨ b = w.heap.size + 2) (Mod.setCell (H6.out.2.1.mono (fun b h => .inl h)) (.inr (.inr rfl)) _) (fun b _ hb f => ?_)
            rcases f with f | f
            · exact (hS' b hb).1 f
            · exact (hS' b hb).2 f
          have hnew : ∀ b, b < w5.heap.size → v.ownBlock ≠ some b → (Value.slice (some ⟨g, 0, none⟩) (acc.length + 1) cap).ownBlock ≠ some b := fun b hb hv e => by
            obtain rfl : g = b := by simpa [Value.ownBlock] using e
            rcases hg6 with f | f
            · exact hv f
            · omega
          have fin : ∀ z : TV, z.Rows (fun b => w.heap.size + 3 ≤ b ∧ v.ownBlock ≠ some b) w5 → z.Rows (fun b => w.heap.size + 3 ≤ b ∧ (Value.slice (some ⟨g, 0, none⟩) (acc.length + 1) cap).ownBlock ≠ some b) (w6.setCell ⟨w.heap.size + 2, 28, none⟩ (.slice (some ⟨g, 0, none⟩) (acc.length + 1) cap)) := by
            intro z hz
            have h1 := (hz.lt (S' := fun b => (w.heap.size + 3 ≤ b ∧ v.ownBlock ≠ some b) ∧ b < w5.heap.size) (fun b hb h => ⟨h, hb⟩)).keeps (hk6 _ (fun b hb => ⟨hb.1.2, by have := hb.1.1; omega⟩))
            exact h1.imp (fun b hb => ⟨hb.1.1, hnew b hb.2 hb.1.2⟩)
          intro z hz
          rcases List.mem_append.1 hz with hz | hz
          · refine fin z ?_
            have h1 := (HR.out.2.1.rows z hz).lt (S' := fun b => (w.heap.size + 3 ≤ b ∧ v.ownBlock ≠ some b) ∧ b < wr.heap.size) (fun b hb h => ⟨h, hb⟩)
            exact (h1.keeps (hm5.keeps (fun b _ hb f => by have := hb.1.1; omega))).imp (fun b hb => hb.1)
          · obtain rfl : z = x := by simpa using hz
            have hszw := HR.out.2.2.2.1
            refine fin z (HK5.out.2.1.imp (fun b hb => ?_))
            exact ⟨by omega, own_ne HR.out.2.1.own (.inr (by omega))⟩
      · obtain ⟨s', hs'⟩ : ∃ s' : St, s' = (at_, true) := ⟨_, rfl⟩
        have hp : rmany (rten B) x6 r7.s = (acc.map (·.t), s') := by rw [hsp, rmany_short (rten B) (x6 - j) (s := (at_, true)) rfl, hs']; simp
        have hneg : ¬ (s'.2 = false ∧ s'.1 = n0) := by rw [hs']; simp
        have HRC := Lib.hid (show rcon B (0, false) = ({ r7 with l := acc.map (·.t), s := s' } : CS) by
          show ck B (0, false) 8 = _
          rw [show ck B (0, false) 8 = (fun r : CS => ({ r with l := (rmany (rten B) r.nt r.s).1, s := (rmany (rten B) r.nt r.s).2 } : CS)) (ck B (0, false) 7) from rfl, ← HS.out, ← HR7.out]
          simp only [HY6.out.1, hp])
        clear hs'
        have hbad : ocf B = (Con.zero, [], 70) := by rw [ocf, HRC.out, if_neg (by rw [← HN0.out]; exact hneg)]
        have hst : (conStore (.pointer (some ⟨w.heap.size, 0, none⟩)) (.agg zCon)).run Try.prog wr = .ok () (wr.setRow w.heap.size zCon) := conStore_row (old := zCon) hrt.res rfl rfl (con_one .zero none 0 0)
        have hres := setRow_heap wr w.heap.size _ zCon _ _ hrt.res
        have HBAD := Lib.hid hbad
        have H9 := Lib.hid (And.intro hres hrt)
        clear hres hrt htv hsp hbad hp hneg
        go_wp2
        refine bodyPost_ret (results_cell_tmp rfl _ _ w.heap.size 48 zCon (0, 0) _ rfl H9.out.1 Try.underlying48 rfl (by rw [conSize]; rfl)) rfl ?_
        rw [HBAD.out]
        exact ⟨.slice none 0 0, [], rfl, rfl, ⟨⟨rfl, .inl ⟨rfl, rfl⟩⟩, by simp⟩, H9.out.2.mod.trans' (setRow_mod zCon) (fun i hi f => by omega)⟩
    · obtain rfl : x6 = j := by omega
      have hp : rmany (rten B) x6 r7.s = (acc.map (·.t), s') := by rw [hsp, Nat.sub_self]; simp [rmany]
      have HRC := Lib.hid (show rcon B (0, false) = ({ r7 with l := acc.map (·.t), s := s' } : CS) by
        show ck B (0, false) 8 = _
        rw [show ck B (0, false) 8 = (fun r : CS => ({ r with l := (rmany (rten B) r.nt r.s).1, s := (rmany (rten B) r.nt r.s).2 } : CS)) (ck B (0, false) 7) from rfl, ← HS.out, ← HR7.out]
        simp only [HY6.out.1, hp])
      obtain ⟨at_, sh⟩ := s'
      cases sh
      · simp at d1 d2
        by_cases hat : at_ = n0
        · have hpos : (((at_, false) : St).2 = false ∧ ((at_, false) : St).1 = n0) := ⟨rfl, hat⟩
          subst hat
          have hok : ocf B = (r7.c, acc.map (·.t), 0) := by rw [ocf, HRC.out, if_pos (by rw [← HN0.out]; exact hpos)]
          obtain ⟨CA, hCA⟩ : ∃ CA, CA = r7.c.cells v := ⟨_, rfl⟩
          have hCs : CA.size = 29 := by rw [hCA]; rfl
          obtain ⟨vP, vc, hv⟩ : ∃ P p, v = .slice P acc.length p := by obtain ⟨P, p, h, _⟩ := own_rowAt htv.own; exact ⟨P, p, h⟩
          have h1 : CA.all (·.oneCell') = true := by rw [hCA, hv]; exact con_one _ _ _ _
          have hld := conLoad_run (by rw [hCA]; exact hrt.con) hCs
          have hst : (conStore (.pointer (some ⟨w.heap.size, 0, none⟩)) (.agg CA)).run Try.prog wr = .ok () (wr.setRow w.heap.size CA) := conStore_row (old := zCon) hrt.res rfl hCs h1
          have hres := setRow_heap wr w.heap.size _ CA _ _ hrt.res
          have HOK := Lib.hid hok
          have H9 := Lib.hid (And.intro hres (And.intro hrt (And.intro htv (And.intro hCs hCA))))
          clear hres hrt htv hsp hok hp hpos hCs hCA h1 hv
          go_wp2
          refine bodyPost_ret (results_cell_tmp rfl _ _ w.heap.size 48 CA (0, 0) _ rfl H9.out.1 Try.underlying48 rfl (by rw [conSize, H9.out.2.2.2.1])) rfl ?_
          obtain ⟨k1, k2, k3, k4, k5⟩ := H9.out
          rw [HOK.out]
          refine ⟨v, acc, by rw [k5]; rfl, rfl, ?_, k2.mod.trans' (setRow_mod CA) (fun i hi f => by omega)⟩
          have h3 := k3.mod (setRow_mod (w := wr) (g := w.heap.size) CA) (fun b hb _ f => by omega)
          exact ⟨⟨h3.own.1, h3.own.2.imp id (fun ⟨g, cap, cur, a, b, c⟩ => ⟨g, cap, cur, a, Nat.le_trans (Nat.le_add_right _ _) b, c⟩)⟩, fun x hx => (h3.rows x hx).imp (fun b hb => ⟨by have := hb.1; omega, hb.2⟩)⟩
        · have hneg : ¬ (((at_, false) : St).2 = false ∧ ((at_, false) : St).1 = n0) := fun f => hat f.2
          have hat' : ¬ ((at_ : Int) = (n0 : Int)) := by omega
          have hbad : ocf B = (Con.zero, [], 70) := by rw [ocf, HRC.out, if_neg (by rw [← HN0.out]; exact hneg)]
          have hst : (conStore (.pointer (some ⟨w.heap.size, 0, none⟩)) (.agg zCon)).run Try.prog wr = .ok () (wr.setRow w.heap.size zCon) := conStore_row (old := zCon) hrt.res rfl rfl (con_one .zero none 0 0)
          have hres := setRow_heap wr w.heap.size _ zCon _ _ hrt.res
          have HBAD := Lib.hid hbad
          have H9 := Lib.hid (And.intro hres hrt)
          clear hres hrt htv hsp hbad hp hneg
          go_wp2
          refine bodyPost_ret (results_cell_tmp rfl _ _ w.heap.size 48 zCon (0, 0) _ rfl H9.out.1 Try.underlying48 rfl (by rw [conSize]; rfl)) rfl ?_
          rw [HBAD.out]
          exact ⟨.slice none 0 0, [], rfl, rfl, ⟨⟨rfl, .inl ⟨rfl, rfl⟩⟩, by simp⟩, H9.out.2.mod.trans' (setRow_mod zCon) (fun i hi f => by omega)⟩
      · simp at d1 d2
        have hneg : ¬ (((at_, true) : St).2 = false ∧ ((at_, true) : St).1 = n0) := by simp
        have hbad : ocf B = (Con.zero, [], 70) := by rw [ocf, HRC.out, if_neg (by rw [← HN0.out]; exact hneg)]
        have hst : (conStore (.pointer (some ⟨w.heap.size, 0, none⟩)) (.agg zCon)).run Try.prog wr = .ok () (wr.setRow w.heap.size zCon) := conStore_row (old := zCon) hrt.res rfl rfl (con_one .zero none 0 0)
        have hres := setRow_heap wr w.heap.size _ zCon _ _ hrt.res
        have HBAD := Lib.hid hbad
        have H9 := Lib.hid (And.intro hres hrt)
        clear hres hrt htv hsp hbad hp hneg
        go_wp2
        refine bodyPost_ret (results_cell_tmp rfl _ _ w.heap.size 48 zCon (0, 0) _ rfl H9.out.1 Try.underlying48 rfl (by rw [conSize]; rfl)) rfl ?_
        rw [HBAD.out]
        exact ⟨.slice none 0 0, [], rfl, rfl, ⟨⟨rfl, .inl ⟨rfl, rfl⟩⟩, by simp⟩, H9.out.2.mod.trans' (setRow_mod zCon) (fun i hi f => by omega)⟩

/-! ### RrH -/
abbrev ocNone : Bool × List UInt8 × Ten × Nat := (false, [], .zero, 70)
theorem rnum1_nil : rnum [] 1 (0, false) = (0, (0, true)) := rfl
theorem rnum1_cons (b : UInt8) (r : List UInt8) : rnum (b :: r) 1 (0, false) = (b.toNat, (1, false)) := by
  simp [rnum, rtake, beval]
theorem ocg_eq (B : List UInt8) : ocg B = if (rnum B 1 (0, false)).2.2 = true ∨ 1 < (rnum B 1 (0, false)).1 then ocNone else
    if (rnum B 1 (0, false)).1 = 1 then (if (rten B (rnum B 1 (0, false)).2).2 = (B.length, false) then (true, (rten B (rnum B 1 (0, false)).2).1.name, (rten B (rnum B 1 (0, false)).2).1, 0) else ocNone)
    else (if (rname B (rnum B 1 (0, false)).2).2 = (B.length, false) then (false, (rname B (rnum B 1 (0, false)).2).1, .zero, 0) else ocNone) := by
  cases B with
  | nil => rw [rnum1_nil, if_pos (Or.inl rfl)]; rfl
  | cons b r =>
    rw [rnum1_cons]
    by_cases h1 : 1 < b.toNat
    · rw [if_pos (Or.inr h1)]; simp [ocg, h1]
    · rw [if_neg (by simp; omega)]
      by_cases h2 : b = 1
      · subst h2
        simp only [ocg, if_neg h1, if_pos, List.length_cons]
        rfl
      · have hb0 : b = 0 := by
          apply UInt8.toNat_inj.1
          have : b.toNat ≠ 1 := fun e => h2 (UInt8.toNat_inj.1 e)
          simp; omega
        subst hb0
        simp only [ocg, if_neg h1, if_neg h2, List.length_cons]
        rfl
theorem zChg_c : zChg = cChg false [] TV.zero := rfl

set_option maxRecDepth 100000 in
set_option maxHeartbeats 4000000 in
theorem refOpenChange_ok {w : World} {A : Option Addr} {c : Nat} (B : List UInt8) (hrow : RowAt (fun b => b < w.heap.size) w A (bcells B)) (hc : B.length ≤ c) (hB : B.length ≤ 100000000) :
    Calls Try.prog 28 #[.slice A B.length c] w (OpenChgP (ocg B) w) := by
  obtain ⟨W, hW⟩ : ∃ W, W = ((w.alloc (.cells zChg 38)).alloc (.cells #[.slice A B.length c, .int .i64 0, .bool false] 86)).alloc (.cells zChg 38) := ⟨_, rfl⟩
  have hmW : Mod No w W := by rw [hW]; exact (((Mod.refl _ _).alloc _).alloc _).alloc _
  have hsz : W.heap.size = w.heap.size + 3 := by rw [hW]; simp
  have hX : W.heap[w.heap.size]? = some (.cells zChg 38 (0, 0)) := by rw [hW]; exact at30 w _ _ _
  have hC : W.heap[w.heap.size + 1]? = some (rrObj A B.length c 0 false) := by rw [hW]; exact at31 w _ _ _
  have hT : W.heap[w.heap.size + 2]? = some (.cells zChg 38 (0, 0)) := by rw [hW]; exact at32 w _ _ _
  have hrW := hrow.keeps (hmW.keeps (fun _ _ _ f => f))
  have HN := rr_n (w := W) (s := (0, false)) (S := fun b => b < w.heap.size) B hC hrW (Nat.zero_le _) hc hB 1 (by omega) (by omega)
  have hle := rnum_le B 1 (0, false) (Nat.zero_le _)
  have hog := ocg_eq B
  have hk8 := rnum_lt B 1 (0, false)
  obtain ⟨k, hk⟩ : ∃ k, k = (rnum B 1 (0, false)).1 := ⟨_, rfl⟩
  obtain ⟨s1, hs1⟩ : ∃ s1, s1 = (rnum B 1 (0, false)).2 := ⟨_, rfl⟩
  rw [← hk, ← hs1] at HN hog
  rw [← hs1] at hle
  rw [← hk] at hk8
  -- what the two readers do behind the first byte
  have hten : ∀ W1 : World, Mod (fun b => b = w.heap.size + 1) W W1 → W1.heap[w.heap.size + 1]? = some (rrObj A B.length c s1.1 s1.2) → Calls Try.prog 46 #[.pointer (some ⟨w.heap.size + 1, 0, none⟩)] W1 fun e w' => ∃ x : TV, e = .returned (.agg x.cells.toArray) ∧ x.t = (rten B s1).1 ∧ x.Rows (fun b => w.heap.size + 3 ≤ b) w' ∧ w'.heap[w.heap.size + 1]? = some (rrObj A B.length c (rten B s1).2.1 (rten B s1).2.2) ∧ Mod (fun b => b = w.heap.size + 1) W w' := by
    intro W1 hm h1
    have := hm.size
    refine (rr_tenant (S := fun b => b < w.heap.size) B h1 (hrW.keeps (hm.keeps (fun b _ hb f => by omega))) hle hc hB (by omega) (fun b hb => by omega)).mono ?_
    rintro e w' ⟨x, he, hx, hr, hb, hm'⟩
    exact ⟨x, he, hx, hr.imp (fun b hb => by omega), hb, hm.trans hm'⟩
  have hnam : ∀ W1 : World, Mod (fun b => b = w.heap.size + 1) W W1 → W1.heap[w.heap.size + 1]? = some (rrObj A B.length c s1.1 s1.2) → Calls Try.prog 47 #[.pointer (some ⟨w.heap.size + 1, 0, none⟩)] W1 fun e w' => e = .returned (.string (str (rname B s1).1)) ∧ w'.heap[w.heap.size + 1]? = some (rrObj A B.length c (rname B s1).2.1 (rname B s1).2.2) ∧ Mod (fun b => b = w.heap.size + 1) W w' := by
    intro W1 hm h1
    refine (rr_name (S := fun b => b < w.heap.size) B h1 (hrW.keeps (hm.keeps (fun b _ hb f => by omega))) hle hc hB (by omega)).mono ?_
    rintro e w' ⟨he, hb, hm'⟩
    exact ⟨he, hb, hm.trans hm'⟩
  obtain ⟨n0, hn0⟩ : ∃ n0, n0 = B.length := ⟨_, rfl⟩
  rw [← hn0] at hW HN hog hten hnam
  rw [← hn0]
  have HN := Lib.hid HN
  have HM := Lib.hid (And.intro hmW (And.intro hX (And.intro hsz hT)))
  have HW := Lib.hid hW
  have HTN := Lib.hid hten
  have HNM := Lib.hid hnam
  have HOG := Lib.hid hog
  have hal := chgAlloc_run
  have hzr := chgZero_run
  clear hmW hX hC hW hT hrow hc hB hn0 hsz hten hnam hog hrW hle hs1 hk
  go_enter Try.func28, Try.ntmps28
  go_upto_region 5 with (first | (go_at_call 43; (first | rw [← HW.out] | skip); refine HN.out.mono ?_; rintro e w1 ⟨rfl, k1, m1⟩; have H1 := Lib.hid (And.intro k1 m1); clear k1 m1) | fail)
  obtain ⟨at1, sh1⟩ := s1
  have d2 : w1.cell? ⟨w.heap.size + 1, 2, none⟩ = some (.bool sh1) := (blk_cell H1.out.1 2).trans rfl
  have hX1 : w1.heap[w.heap.size]? = some (.cells zChg 38 (0, 0)) := H1.out.2.obj HM.out.2.1 (by omega)
  have hT1 : w1.heap[w.heap.size + 2]? = some (.cells zChg 38 (0, 0)) := H1.out.2.obj HM.out.2.2.2 (by omega)
  have hm1 : Mod No w w1 := HM.out.1.trans' H1.out.2 (fun i hi f => by omega)
  have HB1 := Lib.hid (And.intro hX1 (And.intro hT1 hm1))
  clear hX1 hT1 hm1
  by_cases hbd : sh1 = true ∨ 1 < k
  · have hbad : ocg B = ocNone := by rw [HOG.out, if_pos hbd]
    have hor : sh1 = true ∨ sh1 = false ∧ (1 : Int) < (k : Int) := by
      cases sh1
      · exact .inr ⟨rfl, by rcases hbd with f | f; simp at f; omega⟩
      · exact .inl rfl
    clear hbd
    rcases hor with rfl | ⟨rfl, h1k⟩
    · have hst := chgStore_row (CA := zChg) HB1.out.1 zSize zSize zOne
      have hres := setRow_heap w1 w.heap.size _ zChg _ _ HB1.out.1
      have HBAD := Lib.hid hbad
      have HRS := Lib.hid hres
      clear hbad hres
      go_wp2
      refine bodyPost_ret (results_cell_tmp rfl _ _ w.heap.size 38 zChg (0, 0) _ rfl HRS.out Try.underlying38 rfl (by rw [chgSize, zSize])) rfl ?_
      rw [HBAD.out]
      exact openChg_none rfl (HB1.out.2.2.trans' (setRow_mod zChg) (fun i hi f => by omega))
    · have hst := chgStore_row (CA := zChg) HB1.out.1 zSize zSize zOne
      have hres := setRow_heap w1 w.heap.size _ zChg _ _ HB1.out.1
      have HBAD := Lib.hid hbad
      have HRS := Lib.hid hres
      clear hbad hres
      go_wp2
      refine bodyPost_ret (results_cell_tmp rfl _ _ w.heap.size 38 zChg (0, 0) _ rfl HRS.out Try.underlying38 rfl (by rw [chgSize, zSize])) rfl ?_
      rw [HBAD.out]
      exact openChg_none rfl (HB1.out.2.2.trans' (setRow_mod zChg) (fun i hi f => by omega))
  · obtain rfl : sh1 = false := by
      cases sh1
      · rfl
      · exact absurd (Or.inl rfl) hbd
    have hk1 : k = 1 ∨ k = 0 := by
      have : ¬ 1 < k := fun f => hbd (.inr f)
      omega
    have hog2 := HOG.out
    rw [if_neg hbd] at hog2
    clear hbd
    rcases hk1 with rfl | rfl
    · rw [if_pos rfl] at hog2
      have HO2 := Lib.hid hog2
      clear hog2
      have hzt := HTN.out w1 H1.out.2 H1.out.1
      obtain ⟨q, hq⟩ : ∃ q, q = rten B (at1, false) := ⟨_, rfl⟩
      rw [← hq] at hzt HO2
      have HT := Lib.hid hzt
      clear hzt hq
      go_upto_region 8 with fail
      -- the tenant goes into the change
      have hT0 : ∀ w2 : World, w2.heap[w.heap.size + 2]? = some (.cells zChg 38 (0, 0)) → (w2.setCell ⟨w.heap.size + 2, 0, none⟩ (.bool true)).heap[w.heap.size + 2]? = some (.cells (cChg true [] TV.zero) 38 (0, 0)) := fun w2 h => by rw [heap_setCell_row h]; rfl
      have HT0 := Lib.hid hT0
      clear hT0
      go_upto_region 10 with (first | (go_at_call 46; refine HT.out.mono ?_; rintro e w2 ⟨x, rfl, k0, kr, k1, m2⟩; have hT2 : w2.heap[w.heap.size + 2]? = some (.cells zChg 38 (0, 0)) := m2.obj HM.out.2.2.2 (by omega); have c20 : w2.cell? ⟨w.heap.size + 2, 0, none⟩ = some (.bool false) := (blk_cell hT2 0).trans rfl; have f20 := blk_free hT2 0; have hT3 := HT0.out w2 hT2; obtain ⟨TA, hTA⟩ : ∃ TA, TA = x.cells.toArray := ⟨_, rfl⟩; rw [← hTA]; have hst3 := tenStore_in (o := 2) (CA := TA) hT3 (by rw [cChg_size]; decide) (by rw [hTA]; rfl) (by rw [hTA]; exact TV.one kr); rw [hTA, cChg_in, ← hTA] at hst3; obtain ⟨w4, hw4⟩ : ∃ w4, w4 = (w2.setCell ⟨w.heap.size + 2, 0, none⟩ (.bool true)).setRow (w.heap.size + 2) (cChg true [] x) := ⟨_, rfl⟩; rw [← hw4] at hst3; have hT4 : w4.heap[w.heap.size + 2]? = some (.cells (cChg true [] x) 38 (0, 0)) := (by rw [hw4]; exact setRow_heap _ _ _ _ _ _ hT3); have c42 : w4.cell? ⟨w.heap.size + 2, 2, none⟩ = some (.string (str x.t.name)) := (blk_cell hT4 2).trans (cChg_at2 _ _ _); have c41 : w4.cell? ⟨w.heap.size + 2, 1, none⟩ = some (.string (str [])) := (blk_cell hT4 1).trans (cChg1 _ _ _); have f41 := blk_free hT4 1; have H2 := Lib.hid (And.intro k0 (And.intro kr (And.intro k1 (And.intro m2 (And.intro hw4 (And.intro hT4 hT2)))))); clear k0 kr k1 m2 hw4 hT4 hT3 hT2 hTA) | fail)
      refine grab_world fun V hV => ?_
      obtain ⟨k0, kr, k1, m2, hw4, hT4, hT2⟩ := H2.out
      obtain ⟨qt, at_, sh⟩ := q
      have m4 : Mod (fun b => b = w.heap.size + 2) w2 V := by
        rw [hV, hw4]
        exact Mod.setCell ((Mod.setCell (p := ⟨w.heap.size + 2, 0, none⟩) (Mod.refl (fun b => b = w.heap.size + 2) w2) (.inr rfl) _).trans (setRow_mod _)) (p := ⟨w.heap.size + 2, 1, none⟩) (.inr rfl) _
      have hTV0 : V.heap[w.heap.size + 2]? = some (.cells (cChg true x.t.name x) 38 (0, 0)) := by rw [hV, heap_setCell_row hT4, cChg_set1]
      obtain ⟨CX, hCX⟩ : ∃ CX, CX = cChg true x.t.name x := ⟨_, rfl⟩
      have hTV : V.heap[w.heap.size + 2]? = some (.cells CX 38 (0, 0)) := by rw [hCX]; exact hTV0
      have hXV : V.heap[w.heap.size]? = some (.cells zChg 38 (0, 0)) := m4.obj (m2.obj HM.out.2.1 (by omega)) (by omega)
      have hCV : V.heap[w.heap.size + 1]? = some (rrObj A n0 c at_ sh) := m4.obj k1 (by omega)
      have hmV : Mod No w V := (HM.out.1.trans' m2 (fun i hi f => by omega)).trans' m4 (fun i hi f => by omega)
      have hrV : x.Rows (fun b => w.heap.size + 3 ≤ b) V := kr.keeps (m4.keeps (fun b _ hb f => by omega))
      have hCs : CX.size = 35 := by rw [hCX]; exact cChg_size _ _ _
      have hone : CX.all (·.oneCell') = true := by rw [hCX]; exact cChg_one _ _ kr
      have hoc := HO2.out
      have HK0 := Lib.hid k0
      clear k0 kr k1 m2 hw4 hT4 hT2 m4 hTV0 hV H2 d2 c20 f20 hst3 c42 c41 f41
      have HEND := Lib.hid (And.intro hXV (And.intro hTV (And.intro hmV (And.intro hrV (And.intro hCX (And.intro hCs hone))))))
      have dV2 : V.cell? ⟨w.heap.size + 1, 2, none⟩ = some (.bool sh) := (blk_cell hCV 2).trans rfl
      have dV1 : V.cell? ⟨w.heap.size + 1, 1, none⟩ = some (.int .i64 (at_ : Int)) := (blk_cell hCV 1).trans rfl
      have hldV := chgLoad_run hTV hCs
      have hstV := chgStore_row (CA := CX) hXV zSize hCs hone
      have hstZ := chgStore_row (CA := zChg) hXV zSize zSize zOne
      have hresV := setRow_heap V w.heap.size _ CX _ _ hXV
      have hresZ := setRow_heap V w.heap.size _ zChg _ _ hXV
      have HRS := Lib.hid (And.intro hresV hresZ)
      have HOC := Lib.hid hoc
      clear hXV hTV hmV hrV hCX hCs hone hCV hresV hresZ hoc
      by_cases hg : ((at_, sh) : St) = (n0, false)
      · obtain ⟨e1, e2⟩ := Prod.mk.inj hg
        subst e1 e2
        have HGD := Lib.hid (show ocg B = (true, qt.name, qt, 0) from HOC.out.trans (if_pos rfl))
        clear hg hstZ
        go_wp2
        refine bodyPost_ret (results_cell_tmp rfl _ _ w.heap.size 38 CX (0, 0) _ rfl HRS.out.1 Try.underlying38 rfl (by rw [chgSize, HEND.out.2.2.2.2.2.1])) rfl ?_
        obtain ⟨k1, k2, k3, k4, k5, k6, k7⟩ := HEND.out
        rw [HGD.out]
        refine ⟨x, by rw [k5]; rw [HK0.out]; rfl, HK0.out, ?_, k3.trans' (setRow_mod CX) (fun i hi f => by omega)⟩
        exact (k4.keeps ((setRow_mod (w := V) (g := w.heap.size) CX).keeps (fun b _ hb f => by omega))).imp (fun b hb => by omega)
      · have hz : OpenChgP (ocg B) w = OpenChgP ocNone w := by rw [HOC.out, if_neg hg]
        have HZ := Lib.hid hz
        have hor : sh = true ∨ sh = false ∧ ¬ (at_ : Int) = (n0 : Int) := by
          cases sh
          · exact .inr ⟨rfl, fun e => hg (by rw [Int.ofNat_inj.1 e])⟩
          · exact .inl rfl
        clear hz hg hstV
        rcases hor with rfl | ⟨rfl, hne⟩
        all_goals
          go_wp2
          refine bodyPost_ret (results_cell_tmp rfl _ _ w.heap.size 38 zChg (0, 0) _ rfl HRS.out.2 Try.underlying38 rfl (by rw [chgSize, zSize])) rfl ?_
          rw [HZ.out]
          exact openChg_none rfl (HEND.out.2.2.1.trans' (setRow_mod zChg) (fun i hi f => by omega))
    · rw [if_neg (by decide)] at hog2
      have HO2 := Lib.hid hog2
      clear hog2
      have hzt := HNM.out w1 H1.out.2 H1.out.1
      obtain ⟨q, hq⟩ : ∃ q, q = rname B (at1, false) := ⟨_, rfl⟩
      rw [← hq] at hzt HO2
      have HT := Lib.hid hzt
      clear hzt hq
      obtain ⟨qt, at_, sh⟩ := q
      go_upto_region 10 with (first | (go_at_call 47; refine HT.out.mono ?_; rintro e w2 ⟨rfl, k1, m2⟩; have hT2 : w2.heap[w.heap.size + 2]? = some (.cells zChg 38 (0, 0)) := m2.obj HM.out.2.2.2 (by omega); have c21 : w2.cell? ⟨w.heap.size + 2, 1, none⟩ = some (.string (str [])) := (blk_cell hT2 1).trans rfl; have f21 := blk_free hT2 1; have H2 := Lib.hid (And.intro k1 (And.intro m2 hT2)); clear k1 m2 hT2) | fail)
      refine grab_world fun V hV => ?_
      obtain ⟨k1, m2, hT2⟩ := H2.out
      have m4 : Mod (fun b => b = w.heap.size + 2) w2 V := by
        rw [hV]
        exact Mod.setCell (p := ⟨w.heap.size + 2, 1, none⟩) (Mod.refl (fun b => b = w.heap.size + 2) w2) (.inr rfl) _
      obtain ⟨x, hx⟩ : ∃ x, x = TV.zero := ⟨_, rfl⟩
      obtain ⟨CX, hCX⟩ : ∃ CX, CX = cChg false qt x := ⟨_, rfl⟩
      have hTV : V.heap[w.heap.size + 2]? = some (.cells CX 38 (0, 0)) := by rw [hV, heap_setCell_row hT2, zChg_c, cChg_set1, hCX, hx]
      have hXV : V.heap[w.heap.size]? = some (.cells zChg 38 (0, 0)) := m4.obj (m2.obj HM.out.2.1 (by omega)) (by omega)
      have hCV : V.heap[w.heap.size + 1]? = some (rrObj A n0 c at_ sh) := m4.obj k1 (by omega)
      have hmV : Mod No w V := (HM.out.1.trans' m2 (fun i hi f => by omega)).trans' m4 (fun i hi f => by omega)
      have hrV : x.Rows (fun b => w.heap.size + 3 ≤ b) V := by rw [hx]; exact TV.zero_rows _ _
      have hCs : CX.size = 35 := by rw [hCX]; exact cChg_size _ _ _
      have hone : CX.all (·.oneCell') = true := by rw [hCX]; exact cChg_one _ _ hrV
      have hoc := HO2.out
      have HK0 := Lib.hid hx
      clear k1 m2 hT2 m4 hV H2 d2 c21 f21 hx
      have HEND := Lib.hid (And.intro hXV (And.intro hTV (And.intro hmV (And.intro hrV (And.intro hCX (And.intro hCs hone))))))
      have dV2 : V.cell? ⟨w.heap.size + 1, 2, none⟩ = some (.bool sh) := (blk_cell hCV 2).trans rfl
      have dV1 : V.cell? ⟨w.heap.size + 1, 1, none⟩ = some (.int .i64 (at_ : Int)) := (blk_cell hCV 1).trans rfl
      have hldV := chgLoad_run hTV hCs
      have hstV := chgStore_row (CA := CX) hXV zSize hCs hone
      have hstZ := chgStore_row (CA := zChg) hXV zSize zSize zOne
      have hresV := setRow_heap V w.heap.size _ CX _ _ hXV
      have hresZ := setRow_heap V w.heap.size _ zChg _ _ hXV
      have HRS := Lib.hid (And.intro hresV hresZ)
      have HOC := Lib.hid hoc
      clear hXV hTV hmV hrV hCX hCs hone hCV hresV hresZ hoc
      by_cases hg : ((at_, sh) : St) = (n0, false)
      · obtain ⟨e1, e2⟩ := Prod.mk.inj hg
        subst e1 e2
        have HGD := Lib.hid (show ocg B = (false, qt, Ten.zero, 0) from HOC.out.trans (if_pos rfl))
        clear hg hstZ
        go_wp2
        refine bodyPost_ret (results_cell_tmp rfl _ _ w.heap.size 38 CX (0, 0) _ rfl HRS.out.1 Try.underlying38 rfl (by rw [chgSize, HEND.out.2.2.2.2.2.1])) rfl ?_
        obtain ⟨k1, k2, k3, k4, k5, k6, k7⟩ := HEND.out
        rw [HGD.out]
        refine ⟨x, by rw [k5]; rfl, (by rw [HK0.out]; rfl), ?_, k3.trans' (setRow_mod CX) (fun i hi f => by omega)⟩
        exact (k4.keeps ((setRow_mod (w := V) (g := w.heap.size) CX).keeps (fun b _ hb f => by omega))).imp (fun b hb => by omega)
      · have hz : OpenChgP (ocg B) w = OpenChgP ocNone w := by rw [HOC.out, if_neg hg]
        have HZ := Lib.hid hz
        have hor : sh = true ∨ sh = false ∧ ¬ (at_ : Int) = (n0 : Int) := by
          cases sh
          · exact .inr ⟨rfl, fun e => hg (by rw [Int.ofNat_inj.1 e])⟩
          · exact .inl rfl
        clear hz hg hstV
        rcases hor with rfl | ⟨rfl, hne⟩
        all_goals
          go_wp2
          refine bodyPost_ret (results_cell_tmp rfl _ _ w.heap.size 38 zChg (0, 0) _ rfl HRS.out.2 Try.underlying38 rfl (by rw [chgSize, zSize])) rfl ?_
          rw [HZ.out]
          exact openChg_none rfl (HEND.out.2.2.1.trans' (setRow_mod zChg) (fun i hi f => by omega))

/-! ### RrI -/
def Ten.small (t : Ten) : Prop := t.pool.length ≤ 300 ∧ t.statics.length ≤ 300 ∧ t.twices.length ≤ 300
theorem zero_small : Ten.zero.small := ⟨by decide, by decide, by decide⟩
theorem rten_small (B : List UInt8) (s : St) : (rten B s).1.small := by
  have k19 : rk B s 19 = (fun r : RS => ({ r with t := { r.t with twices := (rmany (rpr B) r.nt r.s).1 }, s := (rmany (rpr B) r.nt r.s).2 } : RS)) (rk B s 18) := rfl
  have k18 : rk B s 18 = (fun r : RS => ({ r with t := { r.t with statics := (rmany (rpr B) r.ns r.s).1 }, s := (rmany (rpr B) r.ns r.s).2 } : RS)) (rk B s 17) := rfl
  have k17 : rk B s 17 = (fun r : RS => ({ r with t := { r.t with pool := (rmany (rnum B 4) r.np r.s).1 }, s := (rmany (rnum B 4) r.np r.s).2 } : RS)) (rk B s 16) := rfl
  have k16 : rk B s 16 = (fun r : RS => ({ r with nt := (rnum B 1 r.s).1, s := (rnum B 1 r.s).2 } : RS)) (rk B s 15) := rfl
  have k15 : rk B s 15 = (fun r : RS => ({ r with ns := (rnum B 1 r.s).1, s := (rnum B 1 r.s).2 } : RS)) (rk B s 14) := rfl
  have k14 : rk B s 14 = (fun r : RS => ({ r with np := (rnum B 1 r.s).1, s := (rnum B 1 r.s).2 } : RS)) (rk B s 13) := rfl
  have hnp : (rk B s 16).np < 256 ∧ (rk B s 16).ns < 256 ∧ (rk B s 16).nt < 256 := by
    rw [k16]
    generalize h15 : rk B s 15 = r15 at *
    refine ⟨?_, ?_, rnum_lt B 1 _⟩
    · show r15.np < 256
      rw [k15]
      generalize h14 : rk B s 14 = r14 at *
      show r14.np < 256
      rw [k14]
      exact rnum_lt B 1 _
    · show r15.ns < 256
      rw [k15]
      exact rnum_lt B 1 _
  clear k16 k15 k14
  show (rk B s 19).t.small
  rw [k19]
  clear k19
  generalize h16 : rk B s 16 = r16 at *
  generalize h17 : rk B s 17 = r17 at *
  generalize h18 : rk B s 18 = r18 at *
  obtain ⟨a, b, c⟩ := hnp
  refine ⟨?_, ?_, ?_⟩
  · show r18.t.pool.length ≤ 300
    rw [k18]
    show r17.t.pool.length ≤ 300
    rw [k17]
    exact Nat.le_trans (rmany_len _ _ _) (by omega)
  · show r18.t.statics.length ≤ 300
    rw [k18]
    show (rmany (rpr B) r17.ns r17.s).1.length ≤ 300
    have : r17.ns < 256 := by rw [k17]; exact b
    exact Nat.le_trans (rmany_len _ _ _) (by omega)
  · show (rmany (rpr B) r18.nt r18.s).1.length ≤ 300
    have : r18.nt < 256 := by rw [k18]; show r17.nt < 256; rw [k17]; exact c
    exact Nat.le_trans (rmany_len _ _ _) (by omega)
theorem rmany_all {α : Type} {rd : St → α × St} {p : α → Prop} (h : ∀ s, p (rd s).1) : ∀ n s, ∀ x ∈ (rmany rd n s).1, p x
  | 0, s, x, hx => by simp [rmany] at hx
  | n + 1, s, x, hx => by
    unfold rmany at hx
    split at hx
    · simp at hx
    · rcases List.mem_cons.1 hx with rfl | hx
      · exact h s
      · exact rmany_all h n _ x hx
theorem otn_small (B : List UInt8) : (otn B).1.small := by
  unfold otn
  split
  · exact zero_small
  · exact rten_small B _
theorem rcon_l (B : List UInt8) (s : St) : ∃ n s', n < 256 ∧ (rcon B s).l = (rmany (rten B) n s').1 := by
  have k8 : ck B s 8 = (fun r : CS => ({ r with l := (rmany (rten B) r.nt r.s).1, s := (rmany (rten B) r.nt r.s).2 } : CS)) (ck B s 7) := rfl
  have k7 : ck B s 7 = (fun r : CS => ({ r with nt := (rnum B 1 r.s).1, s := (rnum B 1 r.s).2 } : CS)) (ck B s 6) := rfl
  refine ⟨(ck B s 7).nt, (ck B s 7).s, ?_, ?_⟩
  · rw [k7]; exact rnum_lt B 1 _
  · show (ck B s 8).l = _
    rw [k8]
theorem ocf_small (B : List UInt8) : (∀ t ∈ (ocf B).2.1, t.small) ∧ (ocf B).2.1.length ≤ 300 := by
  unfold ocf
  split
  · obtain ⟨n, s', hn, e⟩ := rcon_l B (0, false)
    simp only [e]
    exact ⟨rmany_all (fun s => rten_small B s) n s', Nat.le_trans (rmany_len _ _ _) (by omega)⟩
  · exact ⟨by simp, by simp⟩
theorem ocg_small (B : List UInt8) : (ocg B).2.2.1.small := by
  rw [ocg_eq]
  split
  · exact zero_small
  · split
    · split
      · exact rten_small B _
      · exact zero_small
    · split
      · exact zero_small
      · exact zero_small

/-! ### LawR -/
def ConQ (cc : Con) (lt : List Ten) (ce : Nat) (W : World) (e : Ending) (w' : World) : Prop :=
  ∃ (CA : Array Value) (Q : Option Addr) (p : Nat) (l : List TV), e = .returned (.tuple #[.agg CA, .int .i64 (ce : Int)]) ∧ CA = cc.cells (.slice Q lt.length p) ∧ l.map (·.t) = lt ∧ TVl (fun b => W.heap.size ≤ b) w' Q l ∧ Mod No W w' ∧ CA.size = 29 ∧ CA.all (·.oneCell') = true
def TenQ (t : Ten) (n te : Nat) (W : World) (e : Ending) (w' : World) : Prop :=
  ∃ (TA : Array Value) (x : TV), e = .returned (.tuple #[.agg TA, .int .i64 (n : Int), .int .i64 (te : Int)]) ∧ TA = x.cells.toArray ∧ x.t = t ∧ x.Rows (fun b => W.heap.size ≤ b) w' ∧ Mod No W w' ∧ TA.size = 33 ∧ TA.all (·.oneCell') = true
def ChgQ (put : Bool) (name : List UInt8) (t : Ten) (ce : Nat) (W : World) (e : Ending) (w' : World) : Prop :=
  ∃ (CA : Array Value) (x : TV), e = .returned (.tuple #[.agg CA, .int .i64 (ce : Int)]) ∧ CA = cChg put name x ∧ x.t = t ∧ x.Rows (fun b => W.heap.size ≤ b) w' ∧ Mod No W w' ∧ CA.size = 35 ∧ CA.all (·.oneCell') = true
theorem con_q {f : Nat} {args : Array Value} {W : World} {B : List UInt8} {cc : Con} {lt : List Ten} {ce : Nat} (h : Calls Try.prog f args W (OpenConP (ocf B) W)) (hq : ocf B = (cc, lt, ce)) : Calls Try.prog f args W (ConQ cc lt ce W) := by
  rw [hq] at h
  refine h.mono ?_
  rintro e w' ⟨vt, l, e1, e2, e3, e4⟩
  obtain ⟨Q, p, hv, hr⟩ := own_rowAt e3.own
  have hl : l.length = lt.length := by have := congrArg List.length e2; simpa using this
  rw [hl] at hv
  subst hv
  exact ⟨_, Q, p, l, e1, rfl, e2, ⟨hr, fun x hx => (e3.rows x hx).imp (fun b hb => hb.1)⟩, e4, rfl, con_one _ _ _ _⟩
theorem chg_q {f : Nat} {args : Array Value} {W : World} {B : List UInt8} {put : Bool} {name : List UInt8} {t : Ten} {ce : Nat} (h : Calls Try.prog f args W (OpenChgP (ocg B) W)) (hq : ocg B = (put, name, t, ce)) : Calls Try.prog f args W (ChgQ put name t ce W) := by
  rw [hq] at h
  refine h.mono ?_
  rintro e w' ⟨x, e1, e2, e3, e4⟩
  exact ⟨_, x, e1, rfl, e2, e3, e4, cChg_size _ _ _, cChg_one _ _ e3⟩
theorem ten_q {f : Nat} {args : Array Value} {W : World} {B : List UInt8} {t : Ten} {n te : Nat} (h : Calls Try.prog f args W fun e w' => ∃ x : TV, e = .returned (.tuple #[.agg x.cells.toArray, .int .i64 ((otn B).2.1 : Nat), .int .i64 ((otn B).2.2 : Nat)]) ∧ x.t = (otn B).1 ∧ x.Rows (fun b => W.heap.size ≤ b) w' ∧ Mod No W w') (hq : otn B = (t, n, te)) : Calls Try.prog f args W (TenQ t n te W) := by
  rw [hq] at h
  refine h.mono ?_
  rintro e w' ⟨x, e1, e2, e3, e4⟩
  exact ⟨_, x, e1, rfl, e2, e3, e4, rfl, TV.one e3⟩
set_option maxRecDepth 100000 in
set_option maxHeartbeats 4000000 in
theorem cfgReads_walk {w : World} (A : Option Addr) (c : Nat) (B : List UInt8) (hc : B.length ≤ c) (h63 : B.length ≤ 9223372036854775807) (hrow : RowAt (fun _ => True) w A (bcells B)) :
    Calls Try.prog 7 #[.slice A B.length c] w fun e w' => e = .returned (.bool true) ∧ Mod No w w' := by
  have hkn := known_ok w
  have hrow' := hrow.mono (S' := fun b => b < w.heap.size) (fun b hb _ => hb)
  have hrw : ∀ W, Mod No w W → RowAt (fun b => b < W.heap.size) W A (bcells B) := fun W hW => (hrow'.keeps (hW.keeps (fun _ _ _ f => f))).mono (fun b hb _ => hb)
  obtain ⟨cc, lt, ce, hq1⟩ : ∃ cc lt ce, ocf B = (cc, lt, ce) := ⟨_, _, _, rfl⟩
  obtain ⟨tt, tn, te, hq2⟩ : ∃ tt tn te, otn B = (tt, tn, te) := ⟨_, _, _, rfl⟩
  obtain ⟨put, name, ct, ge, hq3⟩ : ∃ put name ct ge, ocg B = (put, name, ct, ge) := ⟨_, _, _, _, rfl⟩
  have hs1 := ocf_small B
  have hs2 := otn_small B
  have hs3 := ocg_small B
  rw [hq1] at hs1
  rw [hq2] at hs2
  rw [hq3] at hs3
  have hB : B.length ≤ 4000 → B.length ≤ 100000000 := fun h => by omega
  have hK : B.length ≤ 4000 → ∀ W, Mod No w W → Calls Try.prog 25 #[.slice A B.length c] W (ConQ cc lt ce W) ∧ Calls Try.prog 26 #[.slice A B.length c] W (ConQ cc lt ce W) ∧ Calls Try.prog 17 #[.slice A B.length c] W (TenQ tt tn te W) ∧ Calls Try.prog 27 #[.slice A B.length c] W (TenQ tt tn te W) ∧
      Calls Try.prog 18 #[.slice A B.length c] W (ChgQ put name ct ge W) ∧ Calls Try.prog 28 #[.slice A B.length c] W (ChgQ put name ct ge W) := fun h4 W hW =>
    ⟨con_q (openConfig_ok B (hrw W hW) hc (hB h4)) hq1, con_q (refOpenConfig_ok B (hrw W hW) hc (hB h4)) hq1, ten_q (openTenant_ok B (hrw W hW) hc (hB h4)) hq2, ten_q (refOpenTenant_ok B (hrw W hW) hc (hB h4)) hq2, chg_q (openChange_ok B (hrw W hW) hc (hB h4)) hq3, chg_q (refOpenChange_ok B (hrw W hW) hc (hB h4)) hq3⟩
  obtain ⟨n, hn⟩ : ∃ n, n = B.length := ⟨_, rfl⟩
  rw [← hn] at hK h63
  rw [← hn]
  have HKN := Lib.hid hkn
  have HK := Lib.hid hK
  have HS := Lib.hid (And.intro hs1 (And.intro hs2 hs3))
  have hao := conAlloc_run
  have hal := tenAlloc_run
  have hac := chgAlloc_run
  clear hkn hrow hrow' hrw hq1 hq2 hq3 hs1 hs2 hs3 hB hK hn hc
  go_enter Try.func7, Try.ntmps7
  go_wp2_with fail
  refine HKN.out.mono ?_
  rintro e w1 ⟨rfl, m0⟩
  by_cases h4 : 4000 < n
  · have p1 : (4000 : Int) < n := by omega
    have M0 := Lib.hid m0
    clear m0
    go_wp2
    go_ret
    exact ⟨rfl, M0.out⟩
  have p1 : ¬ (4000 : Int) < n := by omega
  have HQ := Lib.hid (HK.out (by omega))
  have M0 := Lib.hid m0
  clear m0 h4 HK HKN
  go_upto_region 5 with fail
  have hk1 := (HQ.out w1 M0.out).1
  have HC1 := Lib.hid hk1
  clear hk1
  go_upto_region 6 with (first | (go_at_call 25; refine HC1.out.mono ?_; rintro e v1 ⟨C1, Q1, q1, l1, rfl, a1, a2, a3, a4, a5, a6⟩; have hst := conStore_new v1 C1 a5 a6; have HN1 := Lib.hid (And.intro a1 (And.intro a2 (And.intro a3 (And.intro a4 (And.intro a5 a6))))); clear a1 a2 a3 a4 a5 a6) | fail)
  refine grab_world fun V1 hV1 => ?_
  have m : Mod No v1 V1 := by rw [hV1]; exact (Mod.refl _ _).alloc _
  have HB1 := Lib.hid (And.intro (show V1.heap[v1.heap.size]? = some (.cells C1 48 (0, 0)) by rw [hV1]; exact at10 _ _) m)
  have M1 := Lib.hid ((M0.out.trans HN1.out.2.2.2.1).trans m)
  clear hV1 m hst HC1
  have hk2 := (HQ.out V1 M1.out).2.1
  have HC2 := Lib.hid hk2
  clear hk2
  go_upto_region 7 with (first | (go_at_call 26; refine HC2.out.mono ?_; rintro e v2 ⟨C2, Q2, q2, l2, rfl, a1, a2, a3, a4, a5, a6⟩; have hst := conStore_new v2 C2 a5 a6; have HN2 := Lib.hid (And.intro a1 (And.intro a2 (And.intro a3 (And.intro a4 (And.intro a5 a6))))); clear a1 a2 a3 a4 a5 a6) | fail)
  refine grab_world fun V2 hV2 => ?_
  have m : Mod No v2 V2 := by rw [hV2]; exact (Mod.refl _ _).alloc _
  have HB2 := Lib.hid (And.intro (show V2.heap[v2.heap.size]? = some (.cells C2 48 (0, 0)) by rw [hV2]; exact at10 _ _) m)
  have M2 := Lib.hid ((M1.out.trans HN2.out.2.2.2.1).trans m)
  clear hV2 m hst HC2
  have hk3 := (HQ.out V2 M2.out).2.2.1
  have HC3 := Lib.hid hk3
  clear hk3
  go_upto_region 8 with (first | (go_at_call 17; refine HC3.out.mono ?_; rintro e v3 ⟨C3, x3, rfl, a1, a2, a3, a4, a5, a6⟩; have hst := tenStore_new v3 C3 a5 a6; have HN3 := Lib.hid (And.intro a1 (And.intro a2 (And.intro a3 (And.intro a4 (And.intro a5 a6))))); clear a1 a2 a3 a4 a5 a6) | fail)
  refine grab_world fun V3 hV3 => ?_
  have m : Mod No v3 V3 := by rw [hV3]; exact (Mod.refl _ _).alloc _
  have HB3 := Lib.hid (And.intro (show V3.heap[v3.heap.size]? = some (.cells C3 30 (0, 0)) by rw [hV3]; exact at10 _ _) m)
  have M3 := Lib.hid ((M2.out.trans HN3.out.2.2.2.1).trans m)
  clear hV3 m hst HC3
  have hk4 := (HQ.out V3 M3.out).2.2.2.1
  have HC4 := Lib.hid hk4
  clear hk4
  go_upto_region 9 with (first | (go_at_call 27; refine HC4.out.mono ?_; rintro e v4 ⟨C4, x4, rfl, a1, a2, a3, a4, a5, a6⟩; have hst := tenStore_new v4 C4 a5 a6; have HN4 := Lib.hid (And.intro a1 (And.intro a2 (And.intro a3 (And.intro a4 (And.intro a5 a6))))); clear a1 a2 a3 a4 a5 a6) | fail)
  refine grab_world fun V4 hV4 => ?_
  have m : Mod No v4 V4 := by rw [hV4]; exact (Mod.refl _ _).alloc _
  have HB4 := Lib.hid (And.intro (show V4.heap[v4.heap.size]? = some (.cells C4 30 (0, 0)) by rw [hV4]; exact at10 _ _) m)
  have M4 := Lib.hid ((M3.out.trans HN4.out.2.2.2.1).trans m)
  clear hV4 m hst HC4
  have hk5 := (HQ.out V4 M4.out).2.2.2.2.1
  have HC5 := Lib.hid hk5
  clear hk5
  go_upto_region 10 with (first | (go_at_call 18; refine HC5.out.mono ?_; rintro e v5 ⟨C5, x5, rfl, a1, a2, a3, a4, a5, a6⟩; have hst := chgStore_new v5 C5 a5 a6; have HN5 := Lib.hid (And.intro a1 (And.intro a2 (And.intro a3 (And.intro a4 (And.intro a5 a6))))); clear a1 a2 a3 a4 a5 a6) | fail)
  refine grab_world fun V5 hV5 => ?_
  have m : Mod No v5 V5 := by rw [hV5]; exact (Mod.refl _ _).alloc _
  have HB5 := Lib.hid (And.intro (show V5.heap[v5.heap.size]? = some (.cells C5 38 (0, 0)) by rw [hV5]; exact at10 _ _) m)
  have M5 := Lib.hid ((M4.out.trans HN5.out.2.2.2.1).trans m)
  clear hV5 m hst HC5
  have hk6 := (HQ.out V5 M5.out).2.2.2.2.2
  have HC6 := Lib.hid hk6
  clear hk6
  go_upto_region 11 with (first | (go_at_call 28; refine HC6.out.mono ?_; rintro e v6 ⟨C6, x6, rfl, a1, a2, a3, a4, a5, a6⟩; have hst := chgStore_new v6 C6 a5 a6; have HN6 := Lib.hid (And.intro a1 (And.intro a2 (And.intro a3 (And.intro a4 (And.intro a5 a6))))); clear a1 a2 a3 a4 a5 a6) | fail)
  refine grab_world fun V6 hV6 => ?_
  have m : Mod No v6 V6 := by rw [hV6]; exact (Mod.refl _ _).alloc _
  have HB6 := Lib.hid (And.intro (show V6.heap[v6.heap.size]? = some (.cells C6 38 (0, 0)) by rw [hV6]; exact at10 _ _) m)
  have M6 := Lib.hid ((M5.out.trans HN6.out.2.2.2.1).trans m)
  clear hV6 m hst HC6
  -- all read: held against one another
  have T5 : Mod No V5 V6 := HN6.out.2.2.2.1.trans HB6.out.2
  have T4 : Mod No V4 V6 := (HN5.out.2.2.2.1.trans HB5.out.2).trans T5
  have T3 : Mod No V3 V6 := (HN4.out.2.2.2.1.trans HB4.out.2).trans T4
  have T2 : Mod No V2 V6 := (HN3.out.2.2.2.1.trans HB3.out.2).trans T3
  have T1 : Mod No V1 V6 := (HN2.out.2.2.2.1.trans HB2.out.2).trans T2
  have kp : ∀ {S : Nat → Prop} {a b : World}, Mod No a b → Keeps S a b := fun h => h.keeps (fun _ _ _ f => f)
  have hcf : Calls Try.prog 29 #[.agg C1, .agg C2] V6 fun e w' => e = .returned (.bool true) ∧ Mod No V6 w' := by
    rw [HN1.out.1, HN2.out.1]
    have h1 := congrArg List.length HN1.out.2.1
    simp at h1
    refine config_same cc (HN1.out.2.2.1.keeps (kp (HB1.out.2.trans T1))) (HN2.out.2.2.1.keeps (kp (HB2.out.2.trans T2))) h1.symm (by rw [HN1.out.2.1, HN2.out.2.1]) (fun x hx => HS.out.1.1 x.t ?_) (by have := HS.out.1.2; omega)
    rw [← HN2.out.2.1]
    exact List.mem_map_of_mem hx
  have htn : ∀ W, Mod No V6 W → Calls Try.prog 12 #[.agg C3, .agg C4] W fun e w' => e = .returned (.bool true) ∧ Mod No W w' := fun W hW => by
    rw [HN3.out.1, HN4.out.1]
    obtain ⟨z1, z2, z3⟩ := HS.out.2.1
    have e4 := HN4.out.2.1
    exact tenant_same (HN3.out.2.2.1.keeps (kp ((HB3.out.2.trans T3).trans hW))) (HN4.out.2.2.1.keeps (kp ((HB4.out.2.trans T4).trans hW))) (by rw [HN3.out.2.1, HN4.out.2.1]) (by rw [e4]; exact z1) (by rw [e4]; exact z2) (by rw [e4]; exact z3)
  have hch : ∀ W, Mod No V6 W → Calls Try.prog 30 #[.slice (some ⟨W.heap.size, 0, none⟩) 1 1, .slice (some ⟨W.heap.size + 1, 0, none⟩) 1 1] ((W.alloc (.cells C5 38)).alloc (.cells C6 38)) fun e w' => e = .returned (.bool true) ∧ Mod No W w' := fun W hW => by
    have hm : Mod No W ((W.alloc (.cells C5 38)).alloc (.cells C6 38)) := ((Mod.refl _ _).alloc _).alloc _
    have h5 := at20 W (.cells C5 38) (.cells C6 38)
    have h6 := at21 W (.cells C5 38) (.cells C6 38)
    obtain ⟨z1, z2, z3⟩ := HS.out.2.2
    have e6 := HN6.out.2.1
    have := changes_same put name (by rw [← HN5.out.1]; exact h5) (by rw [← HN6.out.1]; exact h6) (HN5.out.2.2.1.keeps (kp (((HB5.out.2.trans T5).trans hW).trans hm))) (HN6.out.2.2.1.keeps (kp ((HB6.out.2.trans hW).trans hm))) (by rw [HN5.out.2.1, HN6.out.2.1]) ⟨by rw [e6]; exact z1, by rw [e6]; exact z2, by rw [e6]; exact z3⟩
    exact this.mono fun e w' ⟨h1, h2⟩ => ⟨h1, hm.trans h2⟩
  have hrd : ∀ W, Mod No V6 W → (conLoad (.pointer (some ⟨v1.heap.size, 0, none⟩))).run Try.prog W = .ok (.agg C1) W ∧ (conLoad (.pointer (some ⟨v2.heap.size, 0, none⟩))).run Try.prog W = .ok (.agg C2) W ∧ (tenLoad (.pointer (some ⟨v3.heap.size, 0, none⟩))).run Try.prog W = .ok (.agg C3) W ∧ (tenLoad (.pointer (some ⟨v4.heap.size, 0, none⟩))).run Try.prog W = .ok (.agg C4) W ∧ (chgLoad (.pointer (some ⟨v5.heap.size, 0, none⟩))).run Try.prog W = .ok (.agg C5) W ∧ (chgLoad (.pointer (some ⟨v6.heap.size, 0, none⟩))).run Try.prog W = .ok (.agg C6) W := fun W hW =>
    ⟨conLoad_run ((T1.trans hW).obj HB1.out.1 id) HN1.out.2.2.2.2.1, conLoad_run ((T2.trans hW).obj HB2.out.1 id) HN2.out.2.2.2.2.1, tenLoad_run ((T3.trans hW).obj HB3.out.1 id) HN3.out.2.2.2.2.1, tenLoad_run ((T4.trans hW).obj HB4.out.1 id) HN4.out.2.2.2.2.1, chgLoad_run ((T5.trans hW).obj HB5.out.1 id) HN5.out.2.2.2.2.1, chgLoad_run (hW.obj HB6.out.1 id) HN6.out.2.2.2.2.1⟩
  have hs5 := chgSlice_run C5 HN5.out.2.2.2.2.1
  have hs6 := chgSlice_run C6 HN6.out.2.2.2.2.1
  have z1 : ((ce : Int) == ce) = true := by simp
  have z2 : ((te : Int) == te) = true := by simp
  have z3 : ((tn : Int) == tn) = true := by simp
  have z4 : ((ge : Int) == ge) = true := by simp
  have HCF := Lib.hid hcf
  have HTN := Lib.hid htn
  have HCH := Lib.hid hch
  have HRD := Lib.hid hrd
  obtain ⟨b1, b2, _, _, _, _⟩ := hrd V6 (Mod.refl _ _)
  clear hcf htn hch hrd T1 T2 T3 T4 T5 kp
  go_wp2_with (first
    | (go_at_call 29; refine HCF.out.mono ?_; rintro e u1 ⟨rfl, n1⟩; obtain ⟨_, _, b3, b4, _, _⟩ := HRD.out u1 n1; have N1 := Lib.hid n1; clear n1)
    | (go_at_call 12; refine (HTN.out _ N1.out).mono ?_; rintro e u2 ⟨rfl, n2⟩; obtain ⟨_, _, _, _, b5, _⟩ := HRD.out u2 (N1.out.trans n2); have b6 : ∀ o, (chgLoad (.pointer (some ⟨v6.heap.size, 0, none⟩))).run Try.prog (u2.alloc o) = .ok (.agg C6) (u2.alloc o) := (fun o => (HRD.out _ ((N1.out.trans n2).alloc o)).2.2.2.2.2); have N2 := Lib.hid (Mod.trans N1.out n2); clear n2)
    | (go_at_call 30; refine (HCH.out _ N2.out).mono ?_; rintro e u3 ⟨rfl, n3⟩; have N3 := Lib.hid n3; clear n3)
    | fail)
  go_ret
  exact ⟨rfl, (M6.out.trans N2.out).trans N3.out⟩

end Go.Proofs.Ytcnemhhbihhcfaa
