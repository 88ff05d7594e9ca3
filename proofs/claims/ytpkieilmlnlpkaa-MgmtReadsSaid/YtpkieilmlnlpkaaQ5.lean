/-
  RrD, RrF, RrG, LawC, LawP, LawE, LawG, LawB, RrH, RrI, LawR in one text (pack.py).
-/
import Derived.Test.YtpkieilmlnlpkaaQ4
namespace Go.Proofs.Ytpkieilmlnlpkaa

section
attribute [local go_sem] stPair gtPair gtK8 gtM6 run_store_func
attribute [local go_sem high] neqPair eqK8 eqM6
attribute [local go_sem ↓] load_fold store_fold alloc_fold slice_op_fold con_load_fold chg_load_fold ten_zero_fold con_alloc_fold con_store_fold con_zero_fold chg_alloc_fold chg_store_fold chg_zero_fold chg_put_fold macLoad_fold macStore_fold keyLoad_fold keyStore_fold
open Go.RowKit
set_option linter.unusedVariables false
set_option linter.unusedSimpArgs false
/-- What the reference's 'tenant' brings about. -/
def RrTen (w : World) (C : Nat) (A : Option Addr) (c : Nat) (B : List UInt8) (s : St) (e : Ending) (w' : World) : Prop :=
  ∃ x : TV, e = .returned (.agg x.cells.toArray) ∧ x.t = (rten B s).1 ∧ x.Rows (fun b => w.heap.size ≤ b) w' ∧ w'.heap[C]? = some (rrObj A B.length c (rten B s).2.1 (rten B s).2.2) ∧ Mod (fun b => b = C) w w'
set_option maxRecDepth 100000 in
set_option maxHeartbeats 4000000 in
theorem rr_tenant {S : Nat → Prop} {w : World} {C : Nat} {A : Option Addr} {c : Nat} {s : St} (B : List UInt8) (hb : w.heap[C]? = some (rrObj A B.length c s.1 s.2)) (hrow : RowAt S w A (bcells B)) (hat : s.1 ≤ B.length) (hc : B.length ≤ c) (hB : B.length ≤ 100000000) (hS : ¬ S C) (hSl : ∀ b, S b → b < w.heap.size) :
    Calls Try.prog 40 #[.pointer (some ⟨C, 0, none⟩)] w (RrTen w C A c B s) := by
  have hlt := lt_of_block hb
  have hT0 : RT w C A c B S .zero s nilv nilv nilv ((w.alloc (.cells zTen 33)).alloc (.cells zTen 33)) := by
    have hm : Mod No w ((w.alloc (.cells zTen 33)).alloc (.cells zTen 33)) := ((Mod.refl _ _).alloc _).alloc _
    exact ⟨hm.obj hb id, hat, at21 w _ _, at20 w _ _, hrow.keeps (hm.keeps (fun _ _ _ f => f)), hm.mono (fun _ f => f.elim), by simp, hc, hB, hS, hSl, hlt⟩
  have HTZ := Lib.hid hT0
  have hal := tenAlloc_run
  obtain ⟨r0, hr0⟩ : ∃ r, r = rk B s 0 := ⟨_, rfl⟩
  have HR0 := Lib.hid hr0
  clear hT0 hb hrow hat hc hB hS hSl hlt hr0
  go_enter Try.func40, Try.ntmps40
  go_upto_region 2 with fail
  refine grab_world fun W0 hW0 => ?_
  have hT0 : RT w C A c B S r0.t r0.s nilv nilv nilv W0 := by rw [hW0, HR0.out]; exact HTZ.out
  have HT0 := Lib.hid hT0
  clear hT0 hW0 HTZ hal
  -- 0: ('name',)
  have hk0 := HT0.out.name
  obtain ⟨x0, hx0⟩ : ∃ x, x = (rname B r0.s).1 := ⟨_, rfl⟩
  rw [← hx0] at hk0
  have HC0 := Lib.hid hk0
  have HX0 := Lib.hid hx0
  clear hk0 hx0
  go_upto_region 3 with (first | (go_at_call 41; refine HC0.out.mono ?_; rintro e v0 ⟨rfl, rt, fz, u0, cu⟩; have HN0 := Lib.hid rt; clear rt) | fail)
  refine grab_world fun W1 hW1 => ?_
  obtain ⟨r1, hr1⟩ : ∃ r : RS, r = { r0 with t := { r0.t with name := x0 }, s := (rname B r0.s).2 } := ⟨_, rfl⟩
  have hT1 : RT w C A c B S r1.t r1.s nilv nilv nilv W1 := by rw [hW1, hr1]; exact HN0.out.set 0 _ rfl rfl
  have HR1 := Lib.hid (show r1 = rk B s 1 by rw [hr1, HX0.out, HR0.out]; rfl)
  have HT1 := Lib.hid hT1
  clear hT1 hW1 HC0 HN0 HT0 fz cu hr1 HR0 HX0
  -- 1: ('n', 4, 1, 'vni', 'u32')
  have hk1 := HT1.out.num 4 (by omega) 1 (by omega)
  obtain ⟨x1, hx1⟩ : ∃ x, x = (rnum B 4 r1.s).1 := ⟨_, rfl⟩
  rw [← hx1] at hk1
  have e1 := wrap_u32 (n := x1) (by rw [hx1]; exact rnum_lt B 4 _)
  have HC1 := Lib.hid hk1
  have HX1 := Lib.hid hx1
  clear hk1 hx1
  go_upto_region 4 with (first | (go_at_call 39; refine HC1.out.mono ?_; rintro e v1 ⟨rfl, rt, _, fz, u1, cu⟩; have HN1 := Lib.hid rt; clear rt) | fail)
  refine grab_world fun W2 hW2 => ?_
  obtain ⟨r2, hr2⟩ : ∃ r : RS, r = { r1 with t := { r1.t with vni := x1 }, s := (rnum B 4 r1.s).2 } := ⟨_, rfl⟩
  have hT2 : RT w C A c B S r2.t r2.s nilv nilv nilv W2 := by rw [hW2, hr2]; exact HN1.out.set 1 _ rfl rfl
  have HR2 := Lib.hid (show r2 = rk B s 2 by rw [hr2, HX1.out, HR1.out]; rfl)
  have HT2 := Lib.hid hT2
  clear hT2 hW2 HC1 HN1 HT1 fz cu e1 hr2 HR1 HX1
  -- 2: ('key', 2, 'key')
  have hk2 := HT2.out.key 2 (by omega)
  obtain ⟨x2, hx2⟩ : ∃ x, x = K8.of (rtake B r2.s 8).1 := ⟨_, rfl⟩
  rw [← hx2] at hk2
  obtain ⟨a2, ha2⟩ : ∃ a, a = (bcells x2.l).toArray := ⟨_, rfl⟩
  obtain ⟨b2, hb2⟩ : ∃ b, b = (splice (r2.t.cells nilv nilv nilv).toList 2 (bcells x2.l)).toArray := ⟨_, rfl⟩
  rw [← ha2, ← hb2] at hk2
  have HC2 := Lib.hid hk2
  have HX2 := Lib.hid (And.intro hx2 hb2)
  clear hk2 hx2 ha2 hb2
  go_upto_region 5 with (first | (go_at_call 43; refine HC2.out.mono ?_; rintro e v2 ⟨rfl, rt, fz⟩; have HN2 := Lib.hid rt; clear rt) | fail)
  refine grab_world fun W3 hW3 => ?_
  obtain ⟨r3, hr3⟩ : ∃ r : RS, r = { r2 with t := { r2.t with key := x2 }, s := (rtake B r2.s 8).2 } := ⟨_, rfl⟩
  have hT3 : RT w C A c B S r3.t r3.s nilv nilv nilv W3 := by rw [hW3, hr3, HX2.out.2]; exact HN2.out.spl 2 _ rfl rfl
  have HR3 := Lib.hid (show r3 = rk B s 3 by rw [hr3, HX2.out.1, HR2.out]; rfl)
  have HT3 := Lib.hid hT3
  clear hT3 hW3 HC2 HN2 HT2 fz hr3 HR2 HX2
  -- 3: ('n', 4, 10, 'vtep', 'u32')
  have hk3 := HT3.out.num 4 (by omega) 10 (by omega)
  obtain ⟨x3, hx3⟩ : ∃ x, x = (rnum B 4 r3.s).1 := ⟨_, rfl⟩
  rw [← hx3] at hk3
  have e3 := wrap_u32 (n := x3) (by rw [hx3]; exact rnum_lt B 4 _)
  have HC3 := Lib.hid hk3
  have HX3 := Lib.hid hx3
  clear hk3 hx3
  go_upto_region 6 with (first | (go_at_call 39; refine HC3.out.mono ?_; rintro e v3 ⟨rfl, rt, _, fz, u3, cu⟩; have HN3 := Lib.hid rt; clear rt) | fail)
  refine grab_world fun W4 hW4 => ?_
  obtain ⟨r4, hr4⟩ : ∃ r : RS, r = { r3 with t := { r3.t with vtep := x3 }, s := (rnum B 4 r3.s).2 } := ⟨_, rfl⟩
  have hT4 : RT w C A c B S r4.t r4.s nilv nilv nilv W4 := by rw [hW4, hr4]; exact HN3.out.set 10 _ rfl rfl
  have HR4 := Lib.hid (show r4 = rk B s 4 by rw [hr4, HX3.out, HR3.out]; rfl)
  have HT4 := Lib.hid hT4
  clear hT4 hW4 HC3 HN3 HT3 fz cu e3 hr4 HR3 HX3
  -- 4: ('mac', 11, 'vmac')
  have hk4 := HT4.out.mac 11 (by omega)
  obtain ⟨x4, hx4⟩ : ∃ x, x = M6.of (rtake B r4.s 6).1 := ⟨_, rfl⟩
  rw [← hx4] at hk4
  obtain ⟨a4, ha4⟩ : ∃ a, a = (bcells x4.l).toArray := ⟨_, rfl⟩
  obtain ⟨b4, hb4⟩ : ∃ b, b = (splice (r4.t.cells nilv nilv nilv).toList 11 (bcells x4.l)).toArray := ⟨_, rfl⟩
  rw [← ha4, ← hb4] at hk4
  have HC4 := Lib.hid hk4
  have HX4 := Lib.hid (And.intro hx4 hb4)
  clear hk4 hx4 ha4 hb4
  go_upto_region 7 with (first | (go_at_call 42; refine HC4.out.mono ?_; rintro e v4 ⟨rfl, rt, fz⟩; have HN4 := Lib.hid rt; clear rt) | fail)
  refine grab_world fun W5 hW5 => ?_
  obtain ⟨r5, hr5⟩ : ∃ r : RS, r = { r4 with t := { r4.t with vmac := x4 }, s := (rtake B r4.s 6).2 } := ⟨_, rfl⟩
  have hT5 : RT w C A c B S r5.t r5.s nilv nilv nilv W5 := by rw [hW5, hr5, HX4.out.2]; exact HN4.out.spl 11 _ rfl rfl
  have HR5 := Lib.hid (show r5 = rk B s 5 by rw [hr5, HX4.out.1, HR4.out]; rfl)
  have HT5 := Lib.hid hT5
  clear hT5 hW5 HC4 HN4 HT4 fz hr5 HR4 HX4
  -- 5: ('mac', 17, 'host')
  have hk5 := HT5.out.mac 17 (by omega)
  obtain ⟨x5, hx5⟩ : ∃ x, x = M6.of (rtake B r5.s 6).1 := ⟨_, rfl⟩
  rw [← hx5] at hk5
  obtain ⟨a5, ha5⟩ : ∃ a, a = (bcells x5.l).toArray := ⟨_, rfl⟩
  obtain ⟨b5, hb5⟩ : ∃ b, b = (splice (r5.t.cells nilv nilv nilv).toList 17 (bcells x5.l)).toArray := ⟨_, rfl⟩
  rw [← ha5, ← hb5] at hk5
  have HC5 := Lib.hid hk5
  have HX5 := Lib.hid (And.intro hx5 hb5)
  clear hk5 hx5 ha5 hb5
  go_upto_region 8 with (first | (go_at_call 42; refine HC5.out.mono ?_; rintro e v5 ⟨rfl, rt, fz⟩; have HN5 := Lib.hid rt; clear rt) | fail)
  refine grab_world fun W6 hW6 => ?_
  obtain ⟨r6, hr6⟩ : ∃ r : RS, r = { r5 with t := { r5.t with host := x5 }, s := (rtake B r5.s 6).2 } := ⟨_, rfl⟩
  have hT6 : RT w C A c B S r6.t r6.s nilv nilv nilv W6 := by rw [hW6, hr6, HX5.out.2]; exact HN5.out.spl 17 _ rfl rfl
  have HR6 := Lib.hid (show r6 = rk B s 6 by rw [hr6, HX5.out.1, HR5.out]; rfl)
  have HT6 := Lib.hid hT6
  clear hT6 hW6 HC5 HN5 HT5 fz hr6 HR5 HX5
  -- 6: ('n', 2, 24, 'lo', 'u16')
  have hk6 := HT6.out.num 2 (by omega) 24 (by omega)
  obtain ⟨x6, hx6⟩ : ∃ x, x = (rnum B 2 r6.s).1 := ⟨_, rfl⟩
  rw [← hx6] at hk6
  have e6 := wrap_u16 (n := x6) (by rw [hx6]; exact rnum_lt B 2 _)
  have HC6 := Lib.hid hk6
  have HX6 := Lib.hid hx6
  clear hk6 hx6
  go_upto_region 9 with (first | (go_at_call 39; refine HC6.out.mono ?_; rintro e v6 ⟨rfl, rt, _, fz, u6, cu⟩; have HN6 := Lib.hid rt; clear rt) | fail)
  refine grab_world fun W7 hW7 => ?_
  obtain ⟨r7, hr7⟩ : ∃ r : RS, r = { r6 with t := { r6.t with lo := x6 }, s := (rnum B 2 r6.s).2 } := ⟨_, rfl⟩
  have hT7 : RT w C A c B S r7.t r7.s nilv nilv nilv W7 := by rw [hW7, hr7]; exact HN6.out.set 24 _ rfl rfl
  have HR7 := Lib.hid (show r7 = rk B s 7 by rw [hr7, HX6.out, HR6.out]; rfl)
  have HT7 := Lib.hid hT7
  clear hT7 hW7 HC6 HN6 HT6 fz cu e6 hr7 HR6 HX6
  -- 7: ('n', 2, 25, 'hi', 'u16')
  have hk7 := HT7.out.num 2 (by omega) 25 (by omega)
  obtain ⟨x7, hx7⟩ : ∃ x, x = (rnum B 2 r7.s).1 := ⟨_, rfl⟩
  rw [← hx7] at hk7
  have e7 := wrap_u16 (n := x7) (by rw [hx7]; exact rnum_lt B 2 _)
  have HC7 := Lib.hid hk7
  have HX7 := Lib.hid hx7
  clear hk7 hx7
  go_upto_region 10 with (first | (go_at_call 39; refine HC7.out.mono ?_; rintro e v7 ⟨rfl, rt, _, fz, u7, cu⟩; have HN7 := Lib.hid rt; clear rt) | fail)
  refine grab_world fun W8 hW8 => ?_
  obtain ⟨r8, hr8⟩ : ∃ r : RS, r = { r7 with t := { r7.t with hi := x7 }, s := (rnum B 2 r7.s).2 } := ⟨_, rfl⟩
  have hT8 : RT w C A c B S r8.t r8.s nilv nilv nilv W8 := by rw [hW8, hr8]; exact HN7.out.set 25 _ rfl rfl
  have HR8 := Lib.hid (show r8 = rk B s 8 by rw [hr8, HX7.out, HR7.out]; rfl)
  have HT8 := Lib.hid hT8
  clear hT8 hW8 HC7 HN7 HT7 fz cu e7 hr8 HR7 HX7
  -- 8: ('n', 1, 26, 'filter', 'i64')
  have hk8 := HT8.out.num 1 (by omega) 26 (by omega)
  obtain ⟨x8, hx8⟩ : ∃ x, x = (rnum B 1 r8.s).1 := ⟨_, rfl⟩
  rw [← hx8] at hk8
  have e8 := wrap_i64 (n := x8) (Nat.lt_of_lt_of_le (by rw [hx8]; exact rnum_lt B 1 _) (by decide))
  have HC8 := Lib.hid hk8
  have HX8 := Lib.hid hx8
  clear hk8 hx8
  go_upto_region 11 with (first | (go_at_call 39; refine HC8.out.mono ?_; rintro e v8 ⟨rfl, rt, _, fz, u8, cu⟩; have HN8 := Lib.hid rt; clear rt) | fail)
  refine grab_world fun W9 hW9 => ?_
  obtain ⟨r9, hr9⟩ : ∃ r : RS, r = { r8 with t := { r8.t with filter := x8 }, s := (rnum B 1 r8.s).2 } := ⟨_, rfl⟩
  have hT9 : RT w C A c B S r9.t r9.s nilv nilv nilv W9 := by rw [hW9, hr9]; exact HN8.out.set 26 _ rfl rfl
  have HR9 := Lib.hid (show r9 = rk B s 9 by rw [hr9, HX8.out, HR8.out]; rfl)
  have HT9 := Lib.hid hT9
  clear hT9 hW9 HC8 HN8 HT8 fz cu e8 hr9 HR8 HX8
  -- 9: ('n', 2, 29, 'sess', 'i64')
  have hk9 := HT9.out.num 2 (by omega) 29 (by omega)
  obtain ⟨x9, hx9⟩ : ∃ x, x = (rnum B 2 r9.s).1 := ⟨_, rfl⟩
  rw [← hx9] at hk9
  have e9 := wrap_i64 (n := x9) (by rw [hx9]; exact rnum_lt B 2 _)
  have HC9 := Lib.hid hk9
  have HX9 := Lib.hid hx9
  clear hk9 hx9
  go_upto_region 12 with (first | (go_at_call 39; refine HC9.out.mono ?_; rintro e v9 ⟨rfl, rt, _, fz, u9, cu⟩; have HN9 := Lib.hid rt; clear rt) | fail)
  refine grab_world fun W10 hW10 => ?_
  obtain ⟨r10, hr10⟩ : ∃ r : RS, r = { r9 with t := { r9.t with sess := x9 }, s := (rnum B 2 r9.s).2 } := ⟨_, rfl⟩
  have hT10 : RT w C A c B S r10.t r10.s nilv nilv nilv W10 := by rw [hW10, hr10]; exact HN9.out.set 29 _ rfl rfl
  have HR10 := Lib.hid (show r10 = rk B s 10 by rw [hr10, HX9.out, HR9.out]; rfl)
  have HT10 := Lib.hid hT10
  clear hT10 hW10 HC9 HN9 HT9 fz cu e9 hr10 HR9 HX9
  -- 10: ('n', 2, 30, 'queue', 'i64')
  have hk10 := HT10.out.num 2 (by omega) 30 (by omega)
  obtain ⟨x10, hx10⟩ : ∃ x, x = (rnum B 2 r10.s).1 := ⟨_, rfl⟩
  rw [← hx10] at hk10
  have e10 := wrap_i64 (n := x10) (by rw [hx10]; exact rnum_lt B 2 _)
  have HC10 := Lib.hid hk10
  have HX10 := Lib.hid hx10
  clear hk10 hx10
  go_upto_region 13 with (first | (go_at_call 39; refine HC10.out.mono ?_; rintro e v10 ⟨rfl, rt, _, fz, u10, cu⟩; have HN10 := Lib.hid rt; clear rt) | fail)
  refine grab_world fun W11 hW11 => ?_
  obtain ⟨r11, hr11⟩ : ∃ r : RS, r = { r10 with t := { r10.t with queue := x10 }, s := (rnum B 2 r10.s).2 } := ⟨_, rfl⟩
  have hT11 : RT w C A c B S r11.t r11.s nilv nilv nilv W11 := by rw [hW11, hr11]; exact HN10.out.set 30 _ rfl rfl
  have HR11 := Lib.hid (show r11 = rk B s 11 by rw [hr11, HX10.out, HR10.out]; rfl)
  have HT11 := Lib.hid hT11
  clear hT11 hW11 HC10 HN10 HT10 fz cu e10 hr11 HR10 HX10
  -- 11: ('n', 4, 31, 'rate', 'u32')
  have hk11 := HT11.out.num 4 (by omega) 31 (by omega)
  obtain ⟨x11, hx11⟩ : ∃ x, x = (rnum B 4 r11.s).1 := ⟨_, rfl⟩
  rw [← hx11] at hk11
  have e11 := wrap_u32 (n := x11) (by rw [hx11]; exact rnum_lt B 4 _)
  have HC11 := Lib.hid hk11
  have HX11 := Lib.hid hx11
  clear hk11 hx11
  go_upto_region 14 with (first | (go_at_call 39; refine HC11.out.mono ?_; rintro e v11 ⟨rfl, rt, _, fz, u11, cu⟩; have HN11 := Lib.hid rt; clear rt) | fail)
  refine grab_world fun W12 hW12 => ?_
  obtain ⟨r12, hr12⟩ : ∃ r : RS, r = { r11 with t := { r11.t with rate := x11 }, s := (rnum B 4 r11.s).2 } := ⟨_, rfl⟩
  have hT12 : RT w C A c B S r12.t r12.s nilv nilv nilv W12 := by rw [hW12, hr12]; exact HN11.out.set 31 _ rfl rfl
  have HR12 := Lib.hid (show r12 = rk B s 12 by rw [hr12, HX11.out, HR11.out]; rfl)
  have HT12 := Lib.hid hT12
  clear hT12 hW12 HC11 HN11 HT11 fz cu e11 hr12 HR11 HX11
  -- 12: ('n', 4, 32, 'burst', 'u32')
  have hk12 := HT12.out.num 4 (by omega) 32 (by omega)
  obtain ⟨x12, hx12⟩ : ∃ x, x = (rnum B 4 r12.s).1 := ⟨_, rfl⟩
  rw [← hx12] at hk12
  have e12 := wrap_u32 (n := x12) (by rw [hx12]; exact rnum_lt B 4 _)
  have HC12 := Lib.hid hk12
  have HX12 := Lib.hid hx12
  clear hk12 hx12
  go_upto_region 15 with (first | (go_at_call 39; refine HC12.out.mono ?_; rintro e v12 ⟨rfl, rt, _, fz, u12, cu⟩; have HN12 := Lib.hid rt; clear rt) | fail)
  refine grab_world fun W13 hW13 => ?_
  obtain ⟨r13, hr13⟩ : ∃ r : RS, r = { r12 with t := { r12.t with burst := x12 }, s := (rnum B 4 r12.s).2 } := ⟨_, rfl⟩
  have hT13 : RT w C A c B S r13.t r13.s nilv nilv nilv W13 := by rw [hW13, hr13]; exact HN12.out.set 32 _ rfl rfl
  have HR13 := Lib.hid (show r13 = rk B s 13 by rw [hr13, HX12.out, HR12.out]; rfl)
  have HT13 := Lib.hid hT13
  clear hT13 hW13 HC12 HN12 HT12 fz cu e12 hr13 HR12 HX12
  -- 13: ('c', 'np')
  have hk13 := HT13.out.num 1 (by omega) 0 (by omega)
  obtain ⟨x13, hx13⟩ : ∃ x, x = (rnum B 1 r13.s).1 := ⟨_, rfl⟩
  rw [← hx13] at hk13
  have e13 := wrap_i64 (n := x13) (Nat.lt_of_lt_of_le (by rw [hx13]; exact rnum_lt B 1 _) (by decide))
  have hy13 : x13 < 256 := by rw [hx13]; exact rnum_lt B 1 _
  have HC13 := Lib.hid hk13
  have HX13 := Lib.hid hx13
  clear hk13 hx13
  go_upto_region 16 with (first | (go_at_call 39; refine HC13.out.mono ?_; rintro e v13 ⟨rfl, rt, _, fz, u13, cu⟩; have HN13 := Lib.hid rt; clear rt) | fail)
  refine grab_world fun W14 hW14 => ?_
  obtain ⟨r14, hr14⟩ : ∃ r : RS, r = { r13 with np := x13, s := (rnum B 1 r13.s).2 } := ⟨_, rfl⟩
  have hT14 : RT w C A c B S r14.t r14.s nilv nilv nilv W14 := by rw [hW14, hr14]; exact HN13.out
  have HR14 := Lib.hid (show r14 = rk B s 14 by rw [hr14, HX13.out, HR13.out]; rfl)
  have HT14 := Lib.hid hT14
  have HY13 := Lib.hid (And.intro (show r14.np = x13 by rw [hr14]) hy13)
  clear hT14 hW14 HC13 HN13 HT13 fz cu e13 hy13 hr14 HR13 HX13
  -- 14: ('c', 'ns')
  have hk14 := HT14.out.num 1 (by omega) 0 (by omega)
  obtain ⟨x14, hx14⟩ : ∃ x, x = (rnum B 1 r14.s).1 := ⟨_, rfl⟩
  rw [← hx14] at hk14
  have e14 := wrap_i64 (n := x14) (Nat.lt_of_lt_of_le (by rw [hx14]; exact rnum_lt B 1 _) (by decide))
  have hy14 : x14 < 256 := by rw [hx14]; exact rnum_lt B 1 _
  have HC14 := Lib.hid hk14
  have HX14 := Lib.hid hx14
  clear hk14 hx14
  go_upto_region 17 with (first | (go_at_call 39; refine HC14.out.mono ?_; rintro e v14 ⟨rfl, rt, _, fz, u14, cu⟩; have HN14 := Lib.hid rt; clear rt) | fail)
  refine grab_world fun W15 hW15 => ?_
  obtain ⟨r15, hr15⟩ : ∃ r : RS, r = { r14 with ns := x14, s := (rnum B 1 r14.s).2 } := ⟨_, rfl⟩
  have hT15 : RT w C A c B S r15.t r15.s nilv nilv nilv W15 := by rw [hW15, hr15]; exact HN14.out
  have HR15 := Lib.hid (show r15 = rk B s 15 by rw [hr15, HX14.out, HR14.out]; rfl)
  have HT15 := Lib.hid hT15
  have HY14 := Lib.hid (And.intro (show r15.ns = x14 by rw [hr15]) hy14)
  have HY13_14 := Lib.hid (show r15.np = x13 by rw [hr15]; exact HY13.out.1)
  clear hT15 hW15 HC14 HN14 HT14 fz cu e14 hy14 hr15 HR14 HX14
  -- 15: ('c', 'nt')
  have hk15 := HT15.out.num 1 (by omega) 0 (by omega)
  obtain ⟨x15, hx15⟩ : ∃ x, x = (rnum B 1 r15.s).1 := ⟨_, rfl⟩
  rw [← hx15] at hk15
  have e15 := wrap_i64 (n := x15) (Nat.lt_of_lt_of_le (by rw [hx15]; exact rnum_lt B 1 _) (by decide))
  have hy15 : x15 < 256 := by rw [hx15]; exact rnum_lt B 1 _
  have HC15 := Lib.hid hk15
  have HX15 := Lib.hid hx15
  clear hk15 hx15
  go_upto_region 18 with (first | (go_at_call 39; refine HC15.out.mono ?_; rintro e v15 ⟨rfl, rt, _, fz, u15, cu⟩; have HN15 := Lib.hid rt; clear rt) | fail)
  refine grab_world fun W16 hW16 => ?_
  obtain ⟨r16, hr16⟩ : ∃ r : RS, r = { r15 with nt := x15, s := (rnum B 1 r15.s).2 } := ⟨_, rfl⟩
  have hT16 : RT w C A c B S r16.t r16.s nilv nilv nilv W16 := by rw [hW16, hr16]; exact HN15.out
  have HR16 := Lib.hid (show r16 = rk B s 16 by rw [hr16, HX15.out, HR15.out]; rfl)
  have HT16 := Lib.hid hT16
  have HY15 := Lib.hid (And.intro (show r16.nt = x15 by rw [hr16]) hy15)
  have HY13_15 := Lib.hid (show r16.np = x13 by rw [hr16]; exact HY13_14.out)
  have HY14_15 := Lib.hid (show r16.ns = x14 by rw [hr16]; exact HY14.out.1)
  clear hT16 hW16 HC15 HN15 HT15 fz cu e15 hy15 hr16 HR15 HX15
  -- the pool
  have hx13 := HY13.out.2
  go_wp2
  go_loopw [7] (fun i wr => ∃ (j : Nat) (acc : List Nat) (s' : St) (v : Value), i = .int .i64 j ∧ j ≤ x13 ∧ acc.length ≤ j ∧ rmany (rnum B 4) x13 r16.s = (acc ++ (rmany (rnum B 4) (x13 - j) s').1, (rmany (rnum B 4) (x13 - j) s').2) ∧
    RT w C A c B S r16.t s' v nilv nilv wr ∧ wr.ownsRow (w.heap.size + 2) 26 1 v acc.length (numCells acc)) (fun i _ => x13 - (intOf i).toNat)
  case atStart => exact ⟨0, [], r16.s, nilv, rfl, by omega, by simp, by simp, HT16.out, ⟨rfl, .inl ⟨rfl, rfl⟩⟩⟩
  case round =>
    obtain ⟨j, acc, s', v, rfl, hj, hacc, hsp, hrt, hown⟩ := hrel
    have d2 := blk_cell hrt.rd 2
    simp at d2
    by_cases hlt : j < x13
    · have p1 : (0:Int) ≤ j := by omega
      have p2 : (j:Int) < x13 := by omega
      obtain ⟨at_, sh⟩ := s'
      cases sh
      · have hc1 := (hrt.keep (F := No) ((Mod.refl No wr).drew) (fun _ f => f.elim)).num 4 (by omega) 23 (by omega)
        have hnx : x13 - j = (x13 - (j + 1)) + 1 := by omega
        rw [hnx, rmany_step _ _ rfl] at hsp
        obtain ⟨y, hy⟩ : ∃ y, y = (rnum B 4 (at_, false)).1 := ⟨_, rfl⟩
        obtain ⟨s2, hs2⟩ : ∃ s2, s2 = (rnum B 4 (at_, false)).2 := ⟨_, rfl⟩
        have wy := wrap_u32 (n := y) (by rw [hy]; exact rnum_lt B 4 _)
        rw [← hy, ← hs2] at hc1 hsp
        have dT : wr.cell? ⟨w.heap.size + 1, 23, none⟩ = some v := (blk_cell hrt.ten 23).trans rfl
        have hob : ∀ k, v.ownBlock = some k → w.heap.size + 2 ≤ k := by
          intro k hk
          rcases hown.2 with ⟨rfl, _⟩ | ⟨g, cap, cur, rfl, hg, _⟩
          · simp [Value.ownBlock] at hk
          · obtain rfl : g = k := by simpa [Value.ownBlock] using hk
            exact hg
        have hClt := hrt.Clt
        have hc1' := hc1.mono (R' := fun e w' => ∃ v1, e = .returned v1 ∧ (v1 = .int .u64 (y : Nat) ∧ RT w C A c B S r16.t s2 v nilv nilv w' ∧ Mod (fun b => b = C) wr.drew w' ∧ w'.frozen? ⟨w.heap.size + 1, 23, none⟩ = false ∧ ∃ u, w'.cell? ⟨w.heap.size + 1, 23, none⟩ = some u)) (fun e w' h => ⟨_, h.1, rfl, h.2⟩)
        have HC1 := Lib.hid hc1'
        clear hc1'
        have HR := Lib.hid (And.intro hsp (And.intro hown (And.intro hob (And.intro hClt hrt))))
        have hacc8 : acc.length ≤ 1000 := by omega
        have HA8 := Lib.hid hacc8
        obtain ⟨i0, hi, hz0, hz1, hz2⟩ := info_parts infou32
        clear hc1 hsp hy hs2 hown hob hClt hacc8 hrt
        go_wp2_with fail
        go_region_law (first
          | (refine step_append_lies _ (by rfl) _ _ 29 (by rfl) (w.heap.size + 2) 26 i0 _ 1 4 Try.underlying29 hi hz0 hz1 hz2 (by rfl) (by decide) v acc.length (numCells acc) (by rfl) ?_ _ _ _ ((fun (n : Nat) => [Value.int .u32 (n : Int)]) y) (by rfl) (by rfl) ?_ (by simp [Value.oneCell']) (by decide) ?_ ?_ ?_ _ (by rfl) ?_;
             (exact own_mod H5.out.2.1 (by repeat (first | with_reducible exact Mod.refl _ _ | refine Mod.alloc ?_ _ | refine Mod.drew ?_)) (fun _ _ f => f));
             (exact World.news_of_block (at10 _ _));
             (have := HA8.out; unfold maxLen; omega);
             (have := HA8.out; omega);
             (have := H5.out.1.sz; simp; omega);
             intro g cap w6 own6 gr6 hat6 hlt6;
             have m6 : Mod (fun b => v.ownBlock = some b) w5 w6 := Mod.grown (((Mod.refl _ w5)).mono (fun _ f => f) |> (fun h => by repeat (first | with_reducible exact h | refine Mod.alloc ?_ _ | refine Mod.drew ?_))) gr6 (fun k hk => .inr hk);
             have rt6 := H5.out.1.keep m6 (fun b f => HR.out.2.2.1 b f); have fT6 := blk_free rt6.ten 23; have dT6 : w6.cell? ⟨w.heap.size + 1, 23, none⟩ = some v := (blk_cell rt6.ten 23).trans rfl; have H6 := Lib.hid (And.intro own6 rt6); clear own6 m6 hat6 gr6 rt6)
          | (refine step_calls_at (by rfl) ?_ HC1.out ?_; go_simp; rintro v5 w5 ⟨rfl, rt, m5, fT5, u5', cT5⟩; have dT5 : w5.cell? ⟨w.heap.size + 1, 23, none⟩ = some v := (blk_cell rt.ten 23).trans rfl; have lT5 : w.heap.size + 1 < w5.heap.size := (by have := rt.sz; omega);
             have hown5 : w5.ownsRow (w.heap.size + 2) 26 1 v acc.length (numCells acc) := own_mod (own_mod HR.out.2.1 ((Mod.refl No wr).drew) (fun _ _ f => f)) m5 (fun k hk f => by have := HR.out.2.2.1 k hk; have := HR.out.2.2.2.1; omega); have H5 := Lib.hid (And.intro rt (And.intro hown5 m5)); clear rt hown5 m5 cT5))
        all_goals
          go_wp2
          refine ⟨⟨j + 1, acc ++ [y], s2, .slice (some ⟨g, 0, none⟩) (acc.length + 1) cap, by go_num, by omega, by simp; omega, ?_, ?_, ?_⟩, by simp [intOf]; omega⟩
          · rw [HR.out.1]; simp
          · exact H6.out.2.set 23 _ rfl rfl
          · refine own_mod (F := fun b => b = w.heap.size + 1) ?_ (Mod.setCell (p := ⟨w.heap.size + 1, 23, none⟩) (Mod.refl (fun b => b = w.heap.size + 1) w6) (.inr rfl) _) (fun k hk f => ?_)
            · have := H6.out.1
              simpa [numCells] using this
            · subst f
              rcases H6.out.1.2 with ⟨h, _⟩ | ⟨g', cap', cur', h, hg', _⟩
              · simp at h
              · have e1 : g = g' := by simpa [Value.ownBlock] using (congrArg (fun v => v.ownBlock) h)
                have e2 : g = w.heap.size + 1 := by simpa [Value.ownBlock] using hk
                omega

      · obtain ⟨s', hs'⟩ : ∃ s' : St, s' = (at_, true) := ⟨_, rfl⟩
        have hp : rmany (rnum B 4) x13 r16.s = (acc, s') := by rw [hsp, rmany_short (rnum B 4) (x13 - j) (s := (at_, true)) rfl, hs']; simp
        have hrt : RT w C A c B S r16.t s' v nilv nilv wr := by rw [hs']; exact hrt
        clear hs'
        go_upto_region 22 with fail
        have HPP := Lib.hid hp
        obtain ⟨P, p, hv, hrw⟩ := own_rowAt hown
        obtain ⟨r17, hr17⟩ : ∃ r : RS, r = { r16 with t := { r16.t with pool := acc }, s := s' } := ⟨_, rfl⟩
        have HR17 := Lib.hid (show r17 = rk B s 17 by
          rw [show rk B s 17 = (fun r : RS => ({ r with t := { r.t with pool := (rmany (rnum B 4) r.np r.s).1 }, s := (rmany (rnum B 4) r.np r.s).2 } : RS)) (rk B s 16) from rfl, ← HR16.out, hr17]
          simp only [HY13_15.out, hp])
        have hT17 : RT w C A c B S r17.t r17.s v nilv nilv wr := by rw [hr17]; exact hrt.retag rfl
        have HV17 := Lib.hid (And.intro (show r17.t.pool = acc by rw [hr17]) (And.intro (show r17.ns = x14 by rw [hr17]; exact HY14_15.out) (And.intro (show r17.nt = x15 by rw [hr17]; exact HY15.out.1) hv)))
        have hk17 := hT17.prs x14 (by have := HY14.out.2; omega) 27 (by omega)
        obtain ⟨l17, hl17⟩ : ∃ l, l = (rmany (rpr B) x14 r17.s).1 := ⟨_, rfl⟩
        rw [← hl17] at hk17
        have HC17 := Lib.hid hk17
        have HL17 := Lib.hid hl17
        have HRW17 := Lib.hid hrw
        have HCl := Lib.hid hT17.Clt
        clear hl17 hk17 hT17 hr17 hv hrw hown hrt hsp hp d2
        go_upto_region 23 with (first | (go_at_call 53; refine HC17.out.mono ?_; rintro e v17 ⟨P2, p2, rfl, rw2, rt, m, fz, u17, cu⟩; have HN17 := Lib.hid (And.intro rt (And.intro rw2 m)); clear rt rw2 m) | fail)
        refine grab_world fun W18 hW18 => ?_
        obtain ⟨r18, hr18⟩ : ∃ r : RS, r = { r17 with t := { r17.t with statics := l17 }, s := (rmany (rpr B) x14 r17.s).2 } := ⟨_, rfl⟩
        have HR18 := Lib.hid (show r18 = rk B s 18 by
          rw [show rk B s 18 = (fun r : RS => ({ r with t := { r.t with statics := (rmany (rpr B) r.ns r.s).1 }, s := (rmany (rpr B) r.ns r.s).2 } : RS)) (rk B s 17) from rfl, ← HR17.out, hr18, HL17.out]
          simp only [HV17.out.2.1])
        have hT18 : RT w C A c B S r18.t r18.s v (.slice P2 l17.length p2) nilv W18 := by rw [hW18, hr18]; exact HN17.out.1.set 27 _ rfl rfl
        have hm18 : Mod (fun b => b < w.heap.size + 2) wr W18 := by
          have := HCl.out
          rw [hW18]; exact Mod.setCell (HN17.out.2.2.mono (fun b f => by omega)) (.inr (by simp)) _
        have hm18' : Mod (fun b => b < w.heap.size + 2) v17 W18 := by
          rw [hW18]; exact Mod.setCell (Mod.refl _ _) (.inr (by simp)) _
        have hrA := HRW17.out.keeps (hm18.keeps (fun b _ hb f => by omega))
        have hrB := HN17.out.2.1.keeps (hm18'.keeps (fun b _ hb f => by omega))
        have HV18 := Lib.hid (And.intro (show r18.t.pool = acc by rw [hr18]; exact HV17.out.1) (And.intro (show r18.t.statics = l17 by rw [hr18]) (And.intro (show r18.nt = x15 by rw [hr18]; exact HV17.out.2.2.1) HV17.out.2.2.2)))
        have hk18 := hT18.prs x15 (by have := HY15.out.2; omega) 28 (by omega)
        obtain ⟨l18, hl18⟩ : ∃ l, l = (rmany (rpr B) x15 r18.s).1 := ⟨_, rfl⟩
        rw [← hl18] at hk18
        have HC18 := Lib.hid hk18
        have HL18 := Lib.hid hl18
        have HRW18 := Lib.hid (And.intro hrA hrB)
        clear hl18 hk18 hT18 hr18 hm18 hm18' hrA hrB HC17 HN17 fz cu hW18 HRW17
        go_upto_region 24 with (first | (go_at_call 53; refine HC18.out.mono ?_; rintro e v18 ⟨P3, p3, rfl, rw3, rt, m, fz, u18, cu⟩; have HN18 := Lib.hid (And.intro rt (And.intro rw3 m)); clear rt rw3 m) | fail)
        refine grab_world fun W19 hW19 => ?_
        obtain ⟨r19, hr19⟩ : ∃ r : RS, r = { r18 with t := { r18.t with twices := l18 }, s := (rmany (rpr B) x15 r18.s).2 } := ⟨_, rfl⟩
        have HR19 := Lib.hid (show r19 = rk B s 19 by
          rw [show rk B s 19 = (fun r : RS => ({ r with t := { r.t with twices := (rmany (rpr B) r.nt r.s).1 }, s := (rmany (rpr B) r.nt r.s).2 } : RS)) (rk B s 18) from rfl, ← HR18.out, hr19, HL18.out]
          simp only [HV18.out.2.2.1])
        have hT19 : RT w C A c B S r19.t r19.s v (.slice P2 l17.length p2) (.slice P3 l18.length p3) W19 := by rw [hW19, hr19]; exact HN18.out.1.set 28 _ rfl rfl
        have hm19 : Mod (fun b => b < w.heap.size + 2) W18 W19 := by
          have := HCl.out
          rw [hW19]; exact Mod.setCell (HN18.out.2.2.mono (fun b f => by omega)) (.inr (by simp)) _
        have hm19' : Mod (fun b => b < w.heap.size + 2) v18 W19 := by
          rw [hW19]; exact Mod.setCell (Mod.refl _ _) (.inr (by simp)) _
        have hrA := HRW18.out.1.keeps (hm19.keeps (fun b _ hb f => by omega))
        have hrB := HRW18.out.2.keeps (hm19.keeps (fun b _ hb f => by omega))
        have hrC := HN18.out.2.1.keeps (hm19'.keeps (fun b _ hb f => by omega))
        obtain ⟨x, hx⟩ : ∃ x : TV, x = ⟨r19.t, v, .slice P2 l17.length p2, .slice P3 l18.length p3⟩ := ⟨_, rfl⟩
        have hrows : x.Rows (fun b => w.heap.size + 2 ≤ b) W19 := by
          rw [hx]
          refine ⟨P, p, P2, p2, P3, p3, ?_, ?_, ?_, ?_, ?_, ?_⟩
          · rw [HV18.out.2.2.2, hr19]; simp only; rw [HV18.out.1]
          · rw [hr19]; simp only; rw [HV18.out.2.1]
          · rw [hr19]
          · rw [hr19]; simp only; rw [HV18.out.1]; exact hrA
          · rw [hr19]; simp only; rw [HV18.out.2.1]; exact hrB
          · rw [hr19]; exact hrC
        obtain ⟨CA, hCA⟩ : ∃ CA, CA = x.cells.toArray := ⟨_, rfl⟩
        have hCs : CA.size = 33 := by rw [hCA]; rfl
        have hTn : W19.heap[w.heap.size + 1]? = some (.cells CA 33 (0, 0)) := by rw [hCA, hx]; exact hT19.ten
        have hld := tenLoad_run hTn hCs
        have hst := tenStore_row (CA := CA) hT19.res rfl hCs (by rw [hCA]; exact TV.one hrows)
        have hres := setRow_heap W19 w.heap.size _ CA _ _ hT19.res
        have H19 := Lib.hid (And.intro hrows (And.intro hT19 (And.intro hCA (And.intro hCs (And.intro hres hx)))))
        clear hrows hT19 hCA hCs hTn hres hr19 hm19 hm19' hrA hrB hrC HC18 HN18 fz cu hW19 HRW18 hx
        go_wp2
        refine bodyPost_ret (results_cell_row rfl _ _ w.heap.size 33 CA (0, 0) _ rfl H19.out.2.2.2.2.1 Try.underlying33 rfl (by rw [tenSize, H19.out.2.2.2.1])) rfl ?_
        obtain ⟨k1, k2, k3, k4, k5, k6⟩ := H19.out
        refine ⟨x, by rw [k3], by rw [k6]; show r19.t = _; rw [HR19.out]; rfl, ?_, ?_, ?_⟩
        · exact (k1.keeps ((setRow_mod CA).keeps (fun b _ hb f => by omega))).imp (fun b hb => by omega)
        · have h1 := HCl.out
          have h2 := (setRow_mod (w := W19) (g := w.heap.size) CA).obj k2.rd (by omega)
          rw [HR19.out] at h2
          exact h2
        · exact k2.mod.trans' (setRow_mod CA) (fun i hi f => by omega)
    · obtain rfl : x13 = j := by omega
      have hp : rmany (rnum B 4) x13 r16.s = (acc, s') := by rw [hsp, Nat.sub_self]; simp [rmany]
      go_upto_region 22 with fail
      have HPP := Lib.hid hp
      obtain ⟨P, p, hv, hrw⟩ := own_rowAt hown
      obtain ⟨r17, hr17⟩ : ∃ r : RS, r = { r16 with t := { r16.t with pool := acc }, s := s' } := ⟨_, rfl⟩
      have HR17 := Lib.hid (show r17 = rk B s 17 by
        rw [show rk B s 17 = (fun r : RS => ({ r with t := { r.t with pool := (rmany (rnum B 4) r.np r.s).1 }, s := (rmany (rnum B 4) r.np r.s).2 } : RS)) (rk B s 16) from rfl, ← HR16.out, hr17]
        simp only [HY13_15.out, hp])
      have hT17 : RT w C A c B S r17.t r17.s v nilv nilv wr := by rw [hr17]; exact hrt.retag rfl
      have HV17 := Lib.hid (And.intro (show r17.t.pool = acc by rw [hr17]) (And.intro (show r17.ns = x14 by rw [hr17]; exact HY14_15.out) (And.intro (show r17.nt = x15 by rw [hr17]; exact HY15.out.1) hv)))
      have hk17 := hT17.prs x14 (by have := HY14.out.2; omega) 27 (by omega)
      obtain ⟨l17, hl17⟩ : ∃ l, l = (rmany (rpr B) x14 r17.s).1 := ⟨_, rfl⟩
      rw [← hl17] at hk17
      have HC17 := Lib.hid hk17
      have HL17 := Lib.hid hl17
      have HRW17 := Lib.hid hrw
      have HCl := Lib.hid hT17.Clt
      clear hl17 hk17 hT17 hr17 hv hrw hown hrt hsp hp d2
      go_upto_region 23 with (first | (go_at_call 53; refine HC17.out.mono ?_; rintro e v17 ⟨P2, p2, rfl, rw2, rt, m, fz, u17, cu⟩; have HN17 := Lib.hid (And.intro rt (And.intro rw2 m)); clear rt rw2 m) | fail)
      refine grab_world fun W18 hW18 => ?_
      obtain ⟨r18, hr18⟩ : ∃ r : RS, r = { r17 with t := { r17.t with statics := l17 }, s := (rmany (rpr B) x14 r17.s).2 } := ⟨_, rfl⟩
      have HR18 := Lib.hid (show r18 = rk B s 18 by
        rw [show rk B s 18 = (fun r : RS => ({ r with t := { r.t with statics := (rmany (rpr B) r.ns r.s).1 }, s := (rmany (rpr B) r.ns r.s).2 } : RS)) (rk B s 17) from rfl, ← HR17.out, hr18, HL17.out]
        simp only [HV17.out.2.1])
      have hT18 : RT w C A c B S r18.t r18.s v (.slice P2 l17.length p2) nilv W18 := by rw [hW18, hr18]; exact HN17.out.1.set 27 _ rfl rfl
      have hm18 : Mod (fun b => b < w.heap.size + 2) wr W18 := by
        have := HCl.out
        rw [hW18]; exact Mod.setCell (HN17.out.2.2.mono (fun b f => by omega)) (.inr (by simp)) _
      have hm18' : Mod (fun b => b < w.heap.size + 2) v17 W18 := by
        rw [hW18]; exact Mod.setCell (Mod.refl _ _) (.inr (by simp)) _
      have hrA := HRW17.out.keeps (hm18.keeps (fun b _ hb f => by omega))
      have hrB := HN17.out.2.1.keeps (hm18'.keeps (fun b _ hb f => by omega))
      have HV18 := Lib.hid (And.intro (show r18.t.pool = acc by rw [hr18]; exact HV17.out.1) (And.intro (show r18.t.statics = l17 by rw [hr18]) (And.intro (show r18.nt = x15 by rw [hr18]; exact HV17.out.2.2.1) HV17.out.2.2.2)))
      have hk18 := hT18.prs x15 (by have := HY15.out.2; omega) 28 (by omega)
      obtain ⟨l18, hl18⟩ : ∃ l, l = (rmany (rpr B) x15 r18.s).1 := ⟨_, rfl⟩
      rw [← hl18] at hk18
      have HC18 := Lib.hid hk18
      have HL18 := Lib.hid hl18
      have HRW18 := Lib.hid (And.intro hrA hrB)
      clear hl18 hk18 hT18 hr18 hm18 hm18' hrA hrB HC17 HN17 fz cu hW18 HRW17
      go_upto_region 24 with (first | (go_at_call 53; refine HC18.out.mono ?_; rintro e v18 ⟨P3, p3, rfl, rw3, rt, m, fz, u18, cu⟩; have HN18 := Lib.hid (And.intro rt (And.intro rw3 m)); clear rt rw3 m) | fail)
      refine grab_world fun W19 hW19 => ?_
      obtain ⟨r19, hr19⟩ : ∃ r : RS, r = { r18 with t := { r18.t with twices := l18 }, s := (rmany (rpr B) x15 r18.s).2 } := ⟨_, rfl⟩
      have HR19 := Lib.hid (show r19 = rk B s 19 by
        rw [show rk B s 19 = (fun r : RS => ({ r with t := { r.t with twices := (rmany (rpr B) r.nt r.s).1 }, s := (rmany (rpr B) r.nt r.s).2 } : RS)) (rk B s 18) from rfl, ← HR18.out, hr19, HL18.out]
        simp only [HV18.out.2.2.1])
      have hT19 : RT w C A c B S r19.t r19.s v (.slice P2 l17.length p2) (.slice P3 l18.length p3) W19 := by rw [hW19, hr19]; exact HN18.out.1.set 28 _ rfl rfl
      have hm19 : Mod (fun b => b < w.heap.size + 2) W18 W19 := by
        have := HCl.out
        rw [hW19]; exact Mod.setCell (HN18.out.2.2.mono (fun b f => by omega)) (.inr (by simp)) _
      have hm19' : Mod (fun b => b < w.heap.size + 2) v18 W19 := by
        rw [hW19]; exact Mod.setCell (Mod.refl _ _) (.inr (by simp)) _
      have hrA := HRW18.out.1.keeps (hm19.keeps (fun b _ hb f => by omega))
      have hrB := HRW18.out.2.keeps (hm19.keeps (fun b _ hb f => by omega))
      have hrC := HN18.out.2.1.keeps (hm19'.keeps (fun b _ hb f => by omega))
      obtain ⟨x, hx⟩ : ∃ x : TV, x = ⟨r19.t, v, .slice P2 l17.length p2, .slice P3 l18.length p3⟩ := ⟨_, rfl⟩
      have hrows : x.Rows (fun b => w.heap.size + 2 ≤ b) W19 := by
        rw [hx]
        refine ⟨P, p, P2, p2, P3, p3, ?_, ?_, ?_, ?_, ?_, ?_⟩
        · rw [HV18.out.2.2.2, hr19]; simp only; rw [HV18.out.1]
        · rw [hr19]; simp only; rw [HV18.out.2.1]
        · rw [hr19]
        · rw [hr19]; simp only; rw [HV18.out.1]; exact hrA
        · rw [hr19]; simp only; rw [HV18.out.2.1]; exact hrB
        · rw [hr19]; exact hrC
      obtain ⟨CA, hCA⟩ : ∃ CA, CA = x.cells.toArray := ⟨_, rfl⟩
      have hCs : CA.size = 33 := by rw [hCA]; rfl
      have hTn : W19.heap[w.heap.size + 1]? = some (.cells CA 33 (0, 0)) := by rw [hCA, hx]; exact hT19.ten
      have hld := tenLoad_run hTn hCs
      have hst := tenStore_row (CA := CA) hT19.res rfl hCs (by rw [hCA]; exact TV.one hrows)
      have hres := setRow_heap W19 w.heap.size _ CA _ _ hT19.res
      have H19 := Lib.hid (And.intro hrows (And.intro hT19 (And.intro hCA (And.intro hCs (And.intro hres hx)))))
      clear hrows hT19 hCA hCs hTn hres hr19 hm19 hm19' hrA hrB hrC HC18 HN18 fz cu hW19 HRW18 hx
      go_wp2
      refine bodyPost_ret (results_cell_row rfl _ _ w.heap.size 33 CA (0, 0) _ rfl H19.out.2.2.2.2.1 Try.underlying33 rfl (by rw [tenSize, H19.out.2.2.2.1])) rfl ?_
      obtain ⟨k1, k2, k3, k4, k5, k6⟩ := H19.out
      refine ⟨x, by rw [k3], by rw [k6]; show r19.t = _; rw [HR19.out]; rfl, ?_, ?_, ?_⟩
      · exact (k1.keeps ((setRow_mod CA).keeps (fun b _ hb f => by omega))).imp (fun b hb => by omega)
      · have h1 := HCl.out
        have h2 := (setRow_mod (w := W19) (g := w.heap.size) CA).obj k2.rd (by omega)
        rw [HR19.out] at h2
        exact h2
      · exact k2.mod.trans' (setRow_mod CA) (fun i hi f => by omega)
end

section
attribute [local go_sem] stPair gtPair gtK8 gtM6 run_store_func
attribute [local go_sem high] neqPair eqK8 eqM6
attribute [local go_sem ↓] load_fold store_fold alloc_fold slice_op_fold con_load_fold chg_load_fold ten_zero_fold con_alloc_fold con_store_fold con_zero_fold chg_alloc_fold chg_store_fold chg_zero_fold chg_put_fold macLoad_fold macStore_fold keyLoad_fold keyStore_fold
open Go.RowKit
set_option linter.unusedVariables false
set_option linter.unusedSimpArgs false
/-- The state of the reference's 'OpenConfig': the result's block, the reader's, the settings', the first that are new. -/
structure RK (w : World) (A : Option Addr) (c : Nat) (B : List UInt8) (cc : Con) (s : St) (vt : Value) (W : World) : Prop where
  rd : W.heap[w.heap.size + 1]? = some (rrObj A B.length c s.1 s.2)
  le : s.1 ≤ B.length
  con : W.heap[w.heap.size + 2]? = some (.cells (cc.cells vt) 38 (0, 0))
  res : W.heap[w.heap.size]? = some (.cells zCon 38 (0, 0))
  row : RowAt (fun b => b < w.heap.size) W A (bcells B)
  mod : Mod No w W
  sz : w.heap.size + 3 ≤ W.heap.size
  hc : B.length ≤ c
  hB : B.length ≤ 100000000
section
variable {w : World} {A : Option Addr} {c : Nat} {B : List UInt8} {cc : Con} {s : St} {vt : Value} {W : World}
theorem RK.call (h : RK w A c B cc s vt W) {W' : World} (hm : Mod (fun b => b = w.heap.size + 1) W W') {s' : St} (hrd : W'.heap[w.heap.size + 1]? = some (rrObj A B.length c s'.1 s'.2)) (hle : s'.1 ≤ B.length) : RK w A c B cc s' vt W' :=
  ⟨hrd, hle, hm.obj h.con (by omega), hm.obj h.res (by omega), h.row.keeps (hm.keeps (fun b _ hb f => by omega)), h.mod.trans' hm (fun i hi f => by omega), Nat.le_trans h.sz hm.size, h.hc, h.hB⟩
theorem RK.keep (h : RK w A c B cc s vt W) {W' : World} {F : Nat → Prop} (hm : Mod F W W') (hF : ∀ b, F b → w.heap.size + 3 ≤ b) : RK w A c B cc s vt W' := by
  refine ⟨hm.obj h.rd (fun f => ?_), h.le, hm.obj h.con (fun f => ?_), hm.obj h.res (fun f => ?_), h.row.keeps (hm.keeps (fun b _ hb f => ?_)), h.mod.trans' hm (fun i hi f => ?_), Nat.le_trans h.sz hm.size, h.hc, h.hB⟩ <;> (have := hF _ f; omega)
theorem RK.into (h : RK w A c B cc s vt W) {W' : World} (hm : Mod (fun b => b = w.heap.size + 2) W W') {cc' : Con} {s' : St} {vt' : Value} (ht : W'.heap[w.heap.size + 2]? = some (.cells (cc'.cells vt') 38 (0, 0))) (hs : s' = s) : RK w A c B cc' s' vt' W' := by
  subst hs
  exact ⟨hm.obj h.rd (by omega), h.le, ht, hm.obj h.res (by omega), h.row.keeps (hm.keeps (fun b _ hb f => by omega)), h.mod.trans' hm (fun i hi f => by omega), Nat.le_trans h.sz hm.size, h.hc, h.hB⟩
theorem RK.set (h : RK w A c B cc s vt W) (o : Nat) (V : Value) {cc' : Con} {s' : St} {vt' : Value} (he : (cc.cells vt).setIfInBounds o V = cc'.cells vt') (hs : s' = s) : RK w A c B cc' s' vt' (W.setCell ⟨w.heap.size + 2, o, none⟩ V) :=
  h.into (Mod.setCell (p := ⟨w.heap.size + 2, o, none⟩) (Mod.refl (fun b => b = w.heap.size + 2) W) (.inr rfl) V) (by rw [heap_setCell_row h.con, he]) hs
theorem RK.spl (h : RK w A c B cc s vt W) (o : Nat) (xs : List Value) {cc' : Con} {s' : St} {vt' : Value} (he : (splice (cc.cells vt).toList o xs).toArray = cc'.cells vt') (hs : s' = s) : RK w A c B cc' s' vt' (W.setRow (w.heap.size + 2) (splice (cc.cells vt).toList o xs).toArray) :=
  h.into (setRow_mod _) (by rw [setRow_heap _ _ _ _ _ _ h.con, he]) hs
theorem RK.cell (h : RK w A c B cc s vt W) (o : Nat) (ho : o < 29) : W.frozen? ⟨w.heap.size + 2, o, none⟩ = false ∧ ∃ u, W.cell? ⟨w.heap.size + 2, o, none⟩ = some u :=
  ⟨blk_free h.con o, _, (blk_cell h.con o).trans (Array.getElem?_eq_getElem (by rw [con_size]; exact ho))⟩
theorem RK.num (h : RK w A c B cc s vt W) (k : Nat) (hk : k ≤ 7) (o : Nat) (ho : o < 29) : Calls Try.prog 39 #[.pointer (some ⟨w.heap.size + 1, 0, none⟩), .int .i64 k] W fun e w' => e = .returned (.int .u64 ((rnum B k s).1 : Nat)) ∧ RK w A c B cc (rnum B k s).2 vt w' ∧ w'.frozen? ⟨w.heap.size + 2, o, none⟩ = false ∧ ∃ u, w'.cell? ⟨w.heap.size + 2, o, none⟩ = some u := by
  refine (rr_n B h.rd h.row h.le h.hc h.hB k hk (by omega)).mono ?_
  rintro e w' ⟨he, hb, hm⟩
  have h' := h.call hm hb (rnum_le B k s h.le)
  exact ⟨he, h', h'.cell o ho⟩
theorem RK.mac (h : RK w A c B cc s vt W) (o : Nat) (ho : o + 6 ≤ 29) : Calls Try.prog 42 #[.pointer (some ⟨w.heap.size + 1, 0, none⟩)] W fun e w' => e = .returned (.agg (bcells (M6.of (rtake B s 6).1).l).toArray) ∧ RK w A c B cc (rtake B s 6).2 vt w' ∧
    (macStore (.pointer (some ⟨w.heap.size + 2, o, none⟩)) (.agg (bcells (M6.of (rtake B s 6).1).l).toArray)).run Try.prog w' = .ok () (w'.setRow (w.heap.size + 2) (splice (cc.cells vt).toList o (bcells (M6.of (rtake B s 6).1).l)).toArray) := by
  refine (rr_mac B h.rd h.row h.le h.hc h.hB (by omega)).mono ?_
  rintro e w' ⟨he, hb, hm⟩
  have h' := h.call hm hb (rtake_le B s 6 h.le)
  exact ⟨he, h', macStore_run _ h'.con (by rw [con_size]; exact ho)⟩
theorem RK.key (h : RK w A c B cc s vt W) (o : Nat) (ho : o + 8 ≤ 29) : Calls Try.prog 43 #[.pointer (some ⟨w.heap.size + 1, 0, none⟩)] W fun e w' => e = .returned (.agg (bcells (K8.of (rtake B s 8).1).l).toArray) ∧ RK w A c B cc (rtake B s 8).2 vt w' ∧
    (keyStore (.pointer (some ⟨w.heap.size + 2, o, none⟩)) (.agg (bcells (K8.of (rtake B s 8).1).l).toArray)).run Try.prog w' = .ok () (w'.setRow (w.heap.size + 2) (splice (cc.cells vt).toList o (bcells (K8.of (rtake B s 8).1).l)).toArray) := by
  refine (rr_key B h.rd h.row h.le h.hc h.hB (by omega)).mono ?_
  rintro e w' ⟨he, hb, hm⟩
  have h' := h.call hm hb (rtake_le B s 8 h.le)
  exact ⟨he, h', keyStore_run _ h'.con (by rw [con_size]; exact ho)⟩
theorem RK.ten (h : RK w A c B cc s vt W) : Calls Try.prog 40 #[.pointer (some ⟨w.heap.size + 1, 0, none⟩)] W fun e w' => ∃ x : TV, e = .returned (.agg x.cells.toArray) ∧ x.t = (rten B s).1 ∧ x.Rows (fun b => W.heap.size ≤ b) w' ∧ RK w A c B cc (rten B s).2 vt w' ∧ Mod (fun b => b = w.heap.size + 1) W w' := by
  refine (rr_tenant B h.rd h.row h.le h.hc h.hB (by omega) (fun b hb => by have := h.sz; omega)).mono ?_
  rintro e w' ⟨x, he, hx, hr, hb, hm⟩
  exact ⟨x, he, hx, hr, h.call hm hb (rten_le B s h.le), hm⟩
end
end

section
attribute [local go_sem] stPair gtPair gtK8 gtM6 run_store_func
attribute [local go_sem high] neqPair eqK8 eqM6
attribute [local go_sem ↓] load_fold store_fold alloc_fold slice_op_fold con_load_fold chg_load_fold ten_zero_fold con_alloc_fold con_store_fold con_zero_fold chg_alloc_fold chg_store_fold chg_zero_fold chg_put_fold macLoad_fold macStore_fold keyLoad_fold keyStore_fold
open Go.RowKit
set_option linter.unusedVariables false
set_option linter.unusedSimpArgs false
set_option maxRecDepth 100000 in
set_option maxHeartbeats 4000000 in
theorem refOpenConfig_ok {w : World} {A : Option Addr} {c : Nat} (B : List UInt8) (hrow : RowAt (fun b => b < w.heap.size) w A (bcells B)) (hc : B.length ≤ c) (hB : B.length ≤ 100000000) :
    Calls Try.prog 19 #[.slice A B.length c] w (OpenConP (ocf B) w) := by
  obtain ⟨s, hs⟩ : ∃ s : St, s = (0, false) := ⟨_, rfl⟩
  have hT0 : RK w A c B .zero s nilv (((w.alloc (.cells zCon 38)).alloc (.cells #[.slice A B.length c, .int .i64 0, .bool false] 88)).alloc (.cells zCon 38)) := by
    have hm : Mod No w (((w.alloc (.cells zCon 38)).alloc (.cells #[.slice A B.length c, .int .i64 0, .bool false] 88)).alloc (.cells zCon 38)) := (((Mod.refl _ _).alloc _).alloc _).alloc _
    exact ⟨by rw [hs]; exact at31 w _ _ _, by rw [hs]; exact Nat.zero_le _, at32 w _ _ _, at30 w _ _ _, hrow.keeps (hm.keeps (fun _ _ _ f => f)), hm, by simp, hc, hB⟩
  have HTZ := Lib.hid hT0
  have hal := conAlloc_run
  have htal := tenAlloc_run
  have hzr := conZero_run
  obtain ⟨r0, hr0⟩ : ∃ r, r = ck B s 0 := ⟨_, rfl⟩
  have HR0 := Lib.hid hr0
  have HS := Lib.hid hs
  obtain ⟨i0, hi, hz0, hz1, hz2⟩ := info_parts infoTen
  have HZ0 := Lib.hid hz0
  obtain ⟨n0, hn0⟩ : ∃ n0, n0 = B.length := ⟨_, rfl⟩
  have HN0 := Lib.hid hn0
  rw [← hn0]
  clear hT0 hrow hc hB hr0 hz0 hs hn0
  go_enter Try.func19, Try.ntmps19
  go_upto_region 3 with fail
  refine grab_world fun W0 hW0 => ?_
  have hT0 : RK w A c B r0.c r0.s nilv W0 := by rw [hW0, HR0.out, HN0.out]; exact HTZ.out
  have HT0 := Lib.hid hT0
  clear hT0 hW0 HTZ hal
  -- 0: ('n', 4, 0, 'ip', 'u32')
  have hk0 := HT0.out.num 4 (by omega) 0 (by omega)
  obtain ⟨x0, hx0⟩ : ∃ x, x = (rnum B 4 r0.s).1 := ⟨_, rfl⟩
  rw [← hx0] at hk0
  have e0 := wrap_u32 (n := x0) (by rw [hx0]; exact rnum_lt B 4 _)
  have HC0 := Lib.hid hk0
  have HX0 := Lib.hid hx0
  clear hk0 hx0
  go_upto_region 4 with (first | (go_at_call 39; refine HC0.out.mono ?_; rintro e v0 ⟨rfl, rt, fz, u0, cu⟩; have HN0 := Lib.hid rt; clear rt) | fail)
  refine grab_world fun W1 hW1 => ?_
  obtain ⟨r1, hr1⟩ : ∃ r : CS, r = { r0 with c := { r0.c with ip := x0 }, s := (rnum B 4 r0.s).2 } := ⟨_, rfl⟩
  have hT1 : RK w A c B r1.c r1.s nilv W1 := by rw [hW1, hr1]; exact HN0.out.set 0 _ rfl rfl
  have HR1 := Lib.hid (show r1 = ck B s 1 by rw [hr1, HX0.out, HR0.out]; rfl)
  have HT1 := Lib.hid hT1
  clear hT1 hW1 HC0 HN0 HT0 fz cu e0 hr1 HR0 HX0
  -- 1: ('mac', 1, 'mac')
  have hk1 := HT1.out.mac 1 (by omega)
  obtain ⟨x1, hx1⟩ : ∃ x, x = M6.of (rtake B r1.s 6).1 := ⟨_, rfl⟩
  rw [← hx1] at hk1
  obtain ⟨a1, ha1⟩ : ∃ a, a = (bcells x1.l).toArray := ⟨_, rfl⟩
  obtain ⟨b1, hb1⟩ : ∃ b, b = (splice (r1.c.cells nilv).toList 1 (bcells x1.l)).toArray := ⟨_, rfl⟩
  rw [← ha1, ← hb1] at hk1
  have HC1 := Lib.hid hk1
  have HX1 := Lib.hid (And.intro hx1 hb1)
  clear hk1 hx1 ha1 hb1
  go_upto_region 5 with (first | (go_at_call 42; refine HC1.out.mono ?_; rintro e v1 ⟨rfl, rt, fz⟩; have HN1 := Lib.hid rt; clear rt) | fail)
  refine grab_world fun W2 hW2 => ?_
  obtain ⟨r2, hr2⟩ : ∃ r : CS, r = { r1 with c := { r1.c with mac := x1 }, s := (rtake B r1.s 6).2 } := ⟨_, rfl⟩
  have hT2 : RK w A c B r2.c r2.s nilv W2 := by rw [hW2, hr2, HX1.out.2]; exact HN1.out.spl 1 _ rfl rfl
  have HR2 := Lib.hid (show r2 = ck B s 2 by rw [hr2, HX1.out.1, HR1.out]; rfl)
  have HT2 := Lib.hid hT2
  clear hT2 hW2 HC1 HN1 HT1 fz hr2 HR1 HX1
  -- 2: ('mac', 7, 'omac')
  have hk2 := HT2.out.mac 7 (by omega)
  obtain ⟨x2, hx2⟩ : ∃ x, x = M6.of (rtake B r2.s 6).1 := ⟨_, rfl⟩
  rw [← hx2] at hk2
  obtain ⟨a2, ha2⟩ : ∃ a, a = (bcells x2.l).toArray := ⟨_, rfl⟩
  obtain ⟨b2, hb2⟩ : ∃ b, b = (splice (r2.c.cells nilv).toList 7 (bcells x2.l)).toArray := ⟨_, rfl⟩
  rw [← ha2, ← hb2] at hk2
  have HC2 := Lib.hid hk2
  have HX2 := Lib.hid (And.intro hx2 hb2)
  clear hk2 hx2 ha2 hb2
  go_upto_region 6 with (first | (go_at_call 42; refine HC2.out.mono ?_; rintro e v2 ⟨rfl, rt, fz⟩; have HN2 := Lib.hid rt; clear rt) | fail)
  refine grab_world fun W3 hW3 => ?_
  obtain ⟨r3, hr3⟩ : ∃ r : CS, r = { r2 with c := { r2.c with omac := x2 }, s := (rtake B r2.s 6).2 } := ⟨_, rfl⟩
  have hT3 : RK w A c B r3.c r3.s nilv W3 := by rw [hW3, hr3, HX2.out.2]; exact HN2.out.spl 7 _ rfl rfl
  have HR3 := Lib.hid (show r3 = ck B s 3 by rw [hr3, HX2.out.1, HR2.out]; rfl)
  have HT3 := Lib.hid hT3
  clear hT3 hW3 HC2 HN2 HT2 fz hr3 HR2 HX2
  -- 3: ('mac', 13, 'nmac')
  have hk3 := HT3.out.mac 13 (by omega)
  obtain ⟨x3, hx3⟩ : ∃ x, x = M6.of (rtake B r3.s 6).1 := ⟨_, rfl⟩
  rw [← hx3] at hk3
  obtain ⟨a3, ha3⟩ : ∃ a, a = (bcells x3.l).toArray := ⟨_, rfl⟩
  obtain ⟨b3, hb3⟩ : ∃ b, b = (splice (r3.c.cells nilv).toList 13 (bcells x3.l)).toArray := ⟨_, rfl⟩
  rw [← ha3, ← hb3] at hk3
  have HC3 := Lib.hid hk3
  have HX3 := Lib.hid (And.intro hx3 hb3)
  clear hk3 hx3 ha3 hb3
  go_upto_region 7 with (first | (go_at_call 42; refine HC3.out.mono ?_; rintro e v3 ⟨rfl, rt, fz⟩; have HN3 := Lib.hid rt; clear rt) | fail)
  refine grab_world fun W4 hW4 => ?_
  obtain ⟨r4, hr4⟩ : ∃ r : CS, r = { r3 with c := { r3.c with nmac := x3 }, s := (rtake B r3.s 6).2 } := ⟨_, rfl⟩
  have hT4 : RK w A c B r4.c r4.s nilv W4 := by rw [hW4, hr4, HX3.out.2]; exact HN3.out.spl 13 _ rfl rfl
  have HR4 := Lib.hid (show r4 = ck B s 4 by rw [hr4, HX3.out.1, HR3.out]; rfl)
  have HT4 := Lib.hid hT4
  clear hT4 hW4 HC3 HN3 HT3 fz hr4 HR3 HX3
  -- 4: ('key', 19, 'key')
  have hk4 := HT4.out.key 19 (by omega)
  obtain ⟨x4, hx4⟩ : ∃ x, x = K8.of (rtake B r4.s 8).1 := ⟨_, rfl⟩
  rw [← hx4] at hk4
  obtain ⟨a4, ha4⟩ : ∃ a, a = (bcells x4.l).toArray := ⟨_, rfl⟩
  obtain ⟨b4, hb4⟩ : ∃ b, b = (splice (r4.c.cells nilv).toList 19 (bcells x4.l)).toArray := ⟨_, rfl⟩
  rw [← ha4, ← hb4] at hk4
  have HC4 := Lib.hid hk4
  have HX4 := Lib.hid (And.intro hx4 hb4)
  clear hk4 hx4 ha4 hb4
  go_upto_region 8 with (first | (go_at_call 43; refine HC4.out.mono ?_; rintro e v4 ⟨rfl, rt, fz⟩; have HN4 := Lib.hid rt; clear rt) | fail)
  refine grab_world fun W5 hW5 => ?_
  obtain ⟨r5, hr5⟩ : ∃ r : CS, r = { r4 with c := { r4.c with key := x4 }, s := (rtake B r4.s 8).2 } := ⟨_, rfl⟩
  have hT5 : RK w A c B r5.c r5.s nilv W5 := by rw [hW5, hr5, HX4.out.2]; exact HN4.out.spl 19 _ rfl rfl
  have HR5 := Lib.hid (show r5 = ck B s 5 by rw [hr5, HX4.out.1, HR4.out]; rfl)
  have HT5 := Lib.hid hT5
  clear hT5 hW5 HC4 HN4 HT4 fz hr5 HR4 HX4
  -- 5: ('n', 4, 27, 'drain', 'u32')
  have hk5 := HT5.out.num 4 (by omega) 27 (by omega)
  obtain ⟨x5, hx5⟩ : ∃ x, x = (rnum B 4 r5.s).1 := ⟨_, rfl⟩
  rw [← hx5] at hk5
  have e5 := wrap_u32 (n := x5) (by rw [hx5]; exact rnum_lt B 4 _)
  have HC5 := Lib.hid hk5
  have HX5 := Lib.hid hx5
  clear hk5 hx5
  go_upto_region 9 with (first | (go_at_call 39; refine HC5.out.mono ?_; rintro e v5 ⟨rfl, rt, fz, u5, cu⟩; have HN5 := Lib.hid rt; clear rt) | fail)
  refine grab_world fun W6 hW6 => ?_
  obtain ⟨r6, hr6⟩ : ∃ r : CS, r = { r5 with c := { r5.c with drain := x5 }, s := (rnum B 4 r5.s).2 } := ⟨_, rfl⟩
  have hT6 : RK w A c B r6.c r6.s nilv W6 := by rw [hW6, hr6]; exact HN5.out.set 27 _ rfl rfl
  have HR6 := Lib.hid (show r6 = ck B s 6 by rw [hr6, HX5.out, HR5.out]; rfl)
  have HT6 := Lib.hid hT6
  clear hT6 hW6 HC5 HN5 HT5 fz cu e5 hr6 HR5 HX5
  -- 6: ('c', 'nt')
  have hk6 := HT6.out.num 1 (by omega) 0 (by omega)
  obtain ⟨x6, hx6⟩ : ∃ x, x = (rnum B 1 r6.s).1 := ⟨_, rfl⟩
  rw [← hx6] at hk6
  have e6 := wrap_i64 (n := x6) (Nat.lt_of_lt_of_le (by rw [hx6]; exact rnum_lt B 1 _) (by decide))
  have hy6 : x6 < 256 := by rw [hx6]; exact rnum_lt B 1 _
  have HC6 := Lib.hid hk6
  have HX6 := Lib.hid hx6
  clear hk6 hx6
  go_upto_region 10 with (first | (go_at_call 39; refine HC6.out.mono ?_; rintro e v6 ⟨rfl, rt, fz, u6, cu⟩; have HN6 := Lib.hid rt; clear rt) | fail)
  refine grab_world fun W7 hW7 => ?_
  obtain ⟨r7, hr7⟩ : ∃ r : CS, r = { r6 with nt := x6, s := (rnum B 1 r6.s).2 } := ⟨_, rfl⟩
  have hT7 : RK w A c B r7.c r7.s nilv W7 := by rw [hW7, hr7]; exact HN6.out
  have HR7 := Lib.hid (show r7 = ck B s 7 by rw [hr7, HX6.out, HR6.out]; rfl)
  have HT7 := Lib.hid hT7
  have HY6 := Lib.hid (And.intro (show r7.nt = x6 by rw [hr7]) hy6)
  clear hT7 hW7 HC6 HN6 HT6 fz cu e6 hy6 hr7 HR6 HX6
  -- the tenants
  have hx6 := HY6.out.2
  go_wp2
  go_loopw [7] (fun i wr => ∃ (j : Nat) (acc : List TV) (s' : St) (v : Value), i = .int .i64 j ∧ j ≤ x6 ∧ acc.length ≤ j ∧ rmany (rten B) x6 r7.s = (acc.map (·.t) ++ (rmany (rten B) (x6 - j) s').1, (rmany (rten B) (x6 - j) s').2) ∧
    RK w A c B r7.c s' v wr ∧ TVs wr (w.heap.size + 3) v acc) (fun i _ => x6 - (intOf i).toNat)
  case atStart => exact ⟨0, [], r7.s, nilv, rfl, by omega, by simp, by simp, HT7.out, ⟨⟨rfl, .inl ⟨rfl, rfl⟩⟩, by simp⟩⟩
  case round =>
    obtain ⟨j, acc, s', v, rfl, hj, hacc, hsp, hrt, htv⟩ := hrel
    have d2 := blk_cell hrt.rd 2
    have d1 := blk_cell hrt.rd 1
    simp at d2 d1
    by_cases hlt : j < x6
    · have p1 : (0:Int) ≤ j := by omega
      have p2 : (j:Int) < x6 := by omega
      obtain ⟨at_, sh⟩ := s'
      cases sh
      · have hc1 := hrt.ten
        have hnx : x6 - j = (x6 - (j + 1)) + 1 := by omega
        rw [hnx, rmany_step _ _ rfl] at hsp
        obtain ⟨y, hy⟩ : ∃ y, y = (rten B (at_, false)).1 := ⟨_, rfl⟩
        obtain ⟨s2, hs2⟩ : ∃ s2, s2 = (rten B (at_, false)).2 := ⟨_, rfl⟩
        rw [← hy, ← hs2] at hc1 hsp
        have hown := htv.own
        have hob : ∀ k, v.ownBlock = some k → w.heap.size + 3 ≤ k := by
          intro k hk
          rcases hown.2 with ⟨rfl, _⟩ | ⟨g, cap, cur, rfl, hg, _⟩
          · simp [Value.ownBlock] at hk
          · obtain rfl : g = k := by simpa [Value.ownBlock] using hk
            exact hg
        have hsz := hrt.sz
        have HC1 := Lib.hid hc1
        have HR := Lib.hid (And.intro hsp (And.intro htv (And.intro hob (And.intro hsz hrt))))
        have hacc8 : acc.length ≤ 1000 := by omega
        have HA8 := Lib.hid hacc8
        clear hc1 hsp hy hs2 hown hob hsz hacc8 hrt htv d1
        go_upto_region 14 with (first
          | (go_at_call 40; refine HC1.out.mono ?_; rintro e w5 ⟨x, rfl, k0, kr, rt, m5⟩; obtain ⟨TA, hTA⟩ : ∃ TA, TA = x.cells.toArray := ⟨_, rfl⟩; have hTs : TA.size = 33 := (by rw [hTA]; rfl); have h1 : TA.all (·.oneCell') = true := (by rw [hTA]; exact TV.one kr); have hst0 := tenStore_new w5 TA hTs h1; rw [← hTA]; have HK5 := Lib.hid (And.intro k0 (And.intro kr (And.intro rt (And.intro m5 (And.intro hTA (And.intro hTs h1)))))); clear k0 kr rt m5 hTA hTs h1)
          | fail)
        have hbs : ∀ W : World, (tenSlice (.agg TA)).run Try.prog W = .ok (.slice (some ⟨W.heap.size, 0, none⟩) 1 1) (W.alloc (.cells TA 33)) := ten_build TA HK5.out.2.2.2.2.2.1
        have hld : (tenLoad (.pointer (some ⟨w5.heap.size, 0, none⟩))).run Try.prog (w5.alloc (.cells TA 33)) = .ok (.agg TA) (w5.alloc (.cells TA 33)) := tenLoad_run (at10 w5 _) HK5.out.2.2.2.2.2.1
        have dT5 : w5.cell? ⟨w.heap.size + 2, 28, none⟩ = some v := (blk_cell HK5.out.2.2.1.con 28).trans rfl
        have lT5 : w.heap.size + 2 < w5.heap.size := by have := HK5.out.2.2.1.sz; omega
        have hown5 : w5.ownsRow (w.heap.size + 3) 33 33 v acc.length (tvCells acc) := own_mod HR.out.2.1.own HK5.out.2.2.2.1 (fun k hk f => by have := HR.out.2.2.1 k hk; omega)
        have HO5 := Lib.hid hown5
        clear hown5
        go_wp2_with (first
          | (at_builtin; (refine wpList_append_lies _ (by rfl) _ _ 36 (by rfl) (w.heap.size + 3) 33 i0 _ 33 160 Try.underlying36 hi HZ0.out hz1 hz2 (by rfl) (by decide) v acc.length (tvCells acc) (by rfl) ?_ _ _ _ TA.toList (by rfl) ?_ ?_ ?_ (by decide) ?_ ?_ ?_ _ (by rfl) ?_; (exact own_mod HO5.out (by repeat (first | with_reducible exact Mod.refl _ _ | refine Mod.alloc ?_ _ | refine Mod.drew ?_)) (fun _ _ f => f)); (have := HK5.out.2.2.2.2.2.1; simpa using this); (first | exact World.news_of_block (at21 _ _ _) | exact World.news_of_block (at10 _ _)); (intro u hu; exact (Array.all_eq_true_iff_forall_mem.1 HK5.out.2.2.2.2.2.2) u (by simpa using hu)); (have := HA8.out; unfold maxLen; omega); (have := HA8.out; omega); (have := HK5.out.2.2.1.sz; simp; omega); intro g cap w6 own6 gr6 hat6 hlt6; have m6 : Mod (fun b => v.ownBlock = some b) w5 w6 := Mod.grown (((Mod.refl _ w5)).mono (fun _ f => f) |> (fun h => by repeat (first | with_reducible exact h | refine Mod.alloc ?_ _ | refine Mod.drew ?_))) gr6 (fun k hk => .inr hk); have rt6 := HK5.out.2.2.1.keep m6 (fun b f => HR.out.2.2.1 b f); have fT6 := blk_free rt6.con 28; have dT6 : w6.cell? ⟨w.heap.size + 2, 28, none⟩ = some v := (blk_cell rt6.con 28).trans rfl; have H6 := Lib.hid (And.intro own6 (And.intro m6 (And.intro hat6 rt6))); clear own6 m6 hat6 gr6 rt6))
          | fail)
        have hsz5 := HK5.out.2.2.1.sz
        have hm5 := HK5.out.2.2.2.1
        have hszr := hm5.size
        have hg6 : v.ownBlock = some g ∨ w5.heap.size ≤ g := by
          rcases H6.out.2.2.1 with f | f
          · exact .inl f
          · right; simp at f; omega
        have hgT : g ≠ w.heap.size + 2 := fun e => by
          rcases hg6 with f | f
          · have := HR.out.2.2.1 g f; omega
          · omega
        have hk0 := HK5.out.1
        have htl : x.cells = TA.toList := by rw [HK5.out.2.2.2.2.1]
        refine ⟨⟨j + 1, acc ++ [x], s2, .slice (some ⟨g, 0, none⟩) (acc.length + 1) cap, by go_num, by omega, by simp; omega, ?_, ?_, ⟨?_, ?_⟩⟩, by simp [intOf]; omega⟩
        · rw [HR.out.1]; simp [hk0]
        · exact H6.out.2.2.2.set 28 _ rfl rfl
        · refine own_mod (F := fun b => b = w.heap.size + 2) ?_ (Mod.setCell (p := ⟨w.heap.size + 2, 28, none⟩) (Mod.refl (fun b => b = w.heap.size + 2) w6) (.inr rfl) _) (fun k hk f => ?_)
          · have := H6.out.1
            rw [← htl] at this
            simpa [tvCells] using this
          · subst f
            exact hgT (by simpa [Value.ownBlock] using hk)
        · have hk6 : ∀ S' : Nat → Prop, (∀ b, S' b → v.ownBlock ≠ some b ∧ b ≠ w.heap.size + 2) → Keeps S' w5 (w6.setCell ⟨w.heap.size + 2, 28, none⟩ (.slice (some ⟨g, 0, none⟩) (acc.length + 1) cap)) := fun S' hS' => by
            refine Mod.keeps (F := fun b => v.ownBlock = some b ∨ b = w.heap.size + 2) (Mod.setCell (H6.out.2.1.mono (fun b h => .inl h)) (.inr (.inr rfl)) _) (fun b _ hb f => ?_)
            rcases f with f | f
            · exact (hS' b hb).1 f
            · exact (hS' b hb).2 f
          have hnew : ∀ b, b < w5.heap.size → v.ownBlock ≠ some b → (Value.slice (some ⟨g, 0, none⟩) (acc.length + 1) cap).ownBlock ≠ some b := fun b hb hv e => by
            obtain rfl : g = b := by simpa [Value.ownBlock] using e
            rcases hg6 with f | f
            · exact hv f
            · omega
          have fin : ∀ z : TV, z.Rows (fun b => w.heap.size + 3 ≤ b ∧ v.ownBlock ≠ some b) w5 → z.Rows (fun b => w.heap.size + 3 ≤ b ∧ (Value.slice (some ⟨g, 0, none⟩) (acc.length + 1) cap).ownBlock ≠ some b) (w6.setCell ⟨w.heap.size + 2, 28, none⟩ (.slice (some ⟨g, 0, none⟩) (acc.length + 1) cap)) := by
            intro z hz
            have h1 := (hz.lt (S' := fun b => (w.heap.size + 3 ≤ b ∧ v.ownBlock ≠ some b) ∧ b < w5.heap.size) (fun b hb h => ⟨h, hb⟩)).keeps (hk6 _ (fun b hb => ⟨hb.1.2, by have := hb.1.1; omega⟩))
            exact h1.imp (fun b hb => ⟨hb.1.1, hnew b hb.2 hb.1.2⟩)
          intro z hz
          rcases List.mem_append.1 hz with hz | hz
          · refine fin z ?_
            have h1 := (HR.out.2.1.rows z hz).lt (S' := fun b => (w.heap.size + 3 ≤ b ∧ v.ownBlock ≠ some b) ∧ b < wr.heap.size) (fun b hb h => ⟨h, hb⟩)
            exact (h1.keeps (hm5.keeps (fun b _ hb f => by have := hb.1.1; omega))).imp (fun b hb => hb.1)
          · obtain rfl : z = x := by simpa using hz
            have hszw := HR.out.2.2.2.1
            refine fin z (HK5.out.2.1.imp (fun b hb => ?_))
            exact ⟨by omega, own_ne HR.out.2.1.own (.inr (by omega))⟩
      · obtain ⟨s', hs'⟩ : ∃ s' : St, s' = (at_, true) := ⟨_, rfl⟩
        have hp : rmany (rten B) x6 r7.s = (acc.map (·.t), s') := by rw [hsp, rmany_short (rten B) (x6 - j) (s := (at_, true)) rfl, hs']; simp
        have hneg : ¬ (s'.2 = false ∧ s'.1 = n0) := by rw [hs']; simp
        have HRC := Lib.hid (show rcon B (0, false) = ({ r7 with l := acc.map (·.t), s := s' } : CS) by
          show ck B (0, false) 8 = _
          rw [show ck B (0, false) 8 = (fun r : CS => ({ r with l := (rmany (rten B) r.nt r.s).1, s := (rmany (rten B) r.nt r.s).2 } : CS)) (ck B (0, false) 7) from rfl, ← HS.out, ← HR7.out]
          simp only [HY6.out.1, hp])
        clear hs'
        have hbad : ocf B = (Con.zero, [], 70) := by rw [ocf, HRC.out, if_neg (by rw [← HN0.out]; exact hneg)]
        have hst : (conStore (.pointer (some ⟨w.heap.size, 0, none⟩)) (.agg zCon)).run Try.prog wr = .ok () (wr.setRow w.heap.size zCon) := conStore_row (old := zCon) hrt.res rfl rfl (con_one .zero none 0 0)
        have hres := setRow_heap wr w.heap.size _ zCon _ _ hrt.res
        have HBAD := Lib.hid hbad
        have H9 := Lib.hid (And.intro hres hrt)
        clear hres hrt htv hsp hbad hp hneg
        go_wp2
        refine bodyPost_ret (results_cell_tmp rfl _ _ w.heap.size 38 zCon (0, 0) _ rfl H9.out.1 Try.underlying38 rfl (by rw [conSize]; rfl)) rfl ?_
        rw [HBAD.out]
        exact ⟨.slice none 0 0, [], rfl, rfl, ⟨⟨rfl, .inl ⟨rfl, rfl⟩⟩, by simp⟩, H9.out.2.mod.trans' (setRow_mod zCon) (fun i hi f => by omega)⟩
    · obtain rfl : x6 = j := by omega
      have hp : rmany (rten B) x6 r7.s = (acc.map (·.t), s') := by rw [hsp, Nat.sub_self]; simp [rmany]
      have HRC := Lib.hid (show rcon B (0, false) = ({ r7 with l := acc.map (·.t), s := s' } : CS) by
        show ck B (0, false) 8 = _
        rw [show ck B (0, false) 8 = (fun r : CS => ({ r with l := (rmany (rten B) r.nt r.s).1, s := (rmany (rten B) r.nt r.s).2 } : CS)) (ck B (0, false) 7) from rfl, ← HS.out, ← HR7.out]
        simp only [HY6.out.1, hp])
      obtain ⟨at_, sh⟩ := s'
      cases sh
      · simp at d1 d2
        by_cases hat : at_ = n0
        · have hpos : (((at_, false) : St).2 = false ∧ ((at_, false) : St).1 = n0) := ⟨rfl, hat⟩
          subst hat
          have hok : ocf B = (r7.c, acc.map (·.t), 0) := by rw [ocf, HRC.out, if_pos (by rw [← HN0.out]; exact hpos)]
          obtain ⟨CA, hCA⟩ : ∃ CA, CA = r7.c.cells v := ⟨_, rfl⟩
          have hCs : CA.size = 29 := by rw [hCA]; rfl
          obtain ⟨vP, vc, hv⟩ : ∃ P p, v = .slice P acc.length p := by obtain ⟨P, p, h, _⟩ := own_rowAt htv.own; exact ⟨P, p, h⟩
          have h1 : CA.all (·.oneCell') = true := by rw [hCA, hv]; exact con_one _ _ _ _
          have hld := conLoad_run (by rw [hCA]; exact hrt.con) hCs
          have hst : (conStore (.pointer (some ⟨w.heap.size, 0, none⟩)) (.agg CA)).run Try.prog wr = .ok () (wr.setRow w.heap.size CA) := conStore_row (old := zCon) hrt.res rfl hCs h1
          have hres := setRow_heap wr w.heap.size _ CA _ _ hrt.res
          have HOK := Lib.hid hok
          have H9 := Lib.hid (And.intro hres (And.intro hrt (And.intro htv (And.intro hCs hCA))))
          clear hres hrt htv hsp hok hp hpos hCs hCA h1 hv
          go_wp2
          refine bodyPost_ret (results_cell_tmp rfl _ _ w.heap.size 38 CA (0, 0) _ rfl H9.out.1 Try.underlying38 rfl (by rw [conSize, H9.out.2.2.2.1])) rfl ?_
          obtain ⟨k1, k2, k3, k4, k5⟩ := H9.out
          rw [HOK.out]
          refine ⟨v, acc, by rw [k5]; rfl, rfl, ?_, k2.mod.trans' (setRow_mod CA) (fun i hi f => by omega)⟩
          have h3 := k3.mod (setRow_mod (w := wr) (g := w.heap.size) CA) (fun b hb _ f => by omega)
          exact ⟨⟨h3.own.1, h3.own.2.imp id (fun ⟨g, cap, cur, a, b, c⟩ => ⟨g, cap, cur, a, Nat.le_trans (Nat.le_add_right _ _) b, c⟩)⟩, fun x hx => (h3.rows x hx).imp (fun b hb => ⟨by have := hb.1; omega, hb.2⟩)⟩
        · have hneg : ¬ (((at_, false) : St).2 = false ∧ ((at_, false) : St).1 = n0) := fun f => hat f.2
          have hat' : ¬ ((at_ : Int) = (n0 : Int)) := by omega
          have hbad : ocf B = (Con.zero, [], 70) := by rw [ocf, HRC.out, if_neg (by rw [← HN0.out]; exact hneg)]
          have hst : (conStore (.pointer (some ⟨w.heap.size, 0, none⟩)) (.agg zCon)).run Try.prog wr = .ok () (wr.setRow w.heap.size zCon) := conStore_row (old := zCon) hrt.res rfl rfl (con_one .zero none 0 0)
          have hres := setRow_heap wr w.heap.size _ zCon _ _ hrt.res
          have HBAD := Lib.hid hbad
          have H9 := Lib.hid (And.intro hres hrt)
          clear hres hrt htv hsp hbad hp hneg
          go_wp2
          refine bodyPost_ret (results_cell_tmp rfl _ _ w.heap.size 38 zCon (0, 0) _ rfl H9.out.1 Try.underlying38 rfl (by rw [conSize]; rfl)) rfl ?_
          rw [HBAD.out]
          exact ⟨.slice none 0 0, [], rfl, rfl, ⟨⟨rfl, .inl ⟨rfl, rfl⟩⟩, by simp⟩, H9.out.2.mod.trans' (setRow_mod zCon) (fun i hi f => by omega)⟩
      · simp at d1 d2
        have hneg : ¬ (((at_, true) : St).2 = false ∧ ((at_, true) : St).1 = n0) := by simp
        have hbad : ocf B = (Con.zero, [], 70) := by rw [ocf, HRC.out, if_neg (by rw [← HN0.out]; exact hneg)]
        have hst : (conStore (.pointer (some ⟨w.heap.size, 0, none⟩)) (.agg zCon)).run Try.prog wr = .ok () (wr.setRow w.heap.size zCon) := conStore_row (old := zCon) hrt.res rfl rfl (con_one .zero none 0 0)
        have hres := setRow_heap wr w.heap.size _ zCon _ _ hrt.res
        have HBAD := Lib.hid hbad
        have H9 := Lib.hid (And.intro hres hrt)
        clear hres hrt htv hsp hbad hp hneg
        go_wp2
        refine bodyPost_ret (results_cell_tmp rfl _ _ w.heap.size 38 zCon (0, 0) _ rfl H9.out.1 Try.underlying38 rfl (by rw [conSize]; rfl)) rfl ?_
        rw [HBAD.out]
        exact ⟨.slice none 0 0, [], rfl, rfl, ⟨⟨rfl, .inl ⟨rfl, rfl⟩⟩, by simp⟩, H9.out.2.mod.trans' (setRow_mod zCon) (fun i hi f => by omega)⟩
end

section
attribute [local go_sem] stPair gtPair gtK8 gtM6 run_store_func
attribute [local go_sem high] neqPair eqK8 eqM6
attribute [local go_sem ↓] load_fold store_fold alloc_fold slice_op_fold con_load_fold chg_load_fold ten_zero_fold con_alloc_fold con_store_fold con_zero_fold chg_alloc_fold chg_store_fold chg_zero_fold chg_put_fold
open Go.RowKit
set_option linter.unusedVariables false
def chgMake (v u : Value) : Sem Value := Instr.build 35 #[(0, v), (2, u)]
theorem chg_make_fold (ρ : Operand → Value) (x y : Operand) (dst : Option Tmp) (ty : TypeId) (pos : String) (after : Array Edge) (g : Option (Nat × Bool)) :
    execOp ρ { dst := dst, op := .build 35 #[(0, x), (2, y)], type := ty, pos := pos, after := after, guard := g } = (do pure (Next.value (← chgMake (ρ x) (ρ y))) : Sem Next) := by
  show (do pure (Next.value (← Instr.build 35 (#[(0, x), (2, y)].map fun (i, x) => (i, ρ x)))) : Sem Next) = _
  have hm : (#[((0 : Nat), x), (2, y)].map fun (i, x) => (i, ρ x)) = #[(0, ρ x), (2, ρ y)] := by simp
  rw [hm]
  rfl
attribute [local go_sem ↓] chg_make_fold
end

section
attribute [local go_sem] stPair gtPair gtK8 gtM6 run_store_func
attribute [local go_sem high] neqPair eqK8 eqM6
attribute [local go_sem ↓] load_fold store_fold alloc_fold slice_op_fold con_load_fold chg_load_fold ten_zero_fold con_alloc_fold con_store_fold con_zero_fold chg_alloc_fold chg_store_fold chg_zero_fold chg_put_fold chg_make_fold
open Go.RowKit
set_option linter.unusedVariables false
theorem own_tail (n c at_ : Nat) (A : Option Addr) (h1 : at_ ≤ n) (h2 : n ≤ c) :
    ∃ A', (∀ W, (Instr.slice 22 (.slice A n c) (some (.int .i64 (at_ : Int))) none none).run Try.prog W = .ok (.slice A' (n - at_) (c - at_)) W) ∧ ∀ (S : Nat → Prop) (w : World) (cs : List Value), RowAt S w A cs → RowAt S w A' ((cs.drop at_).take (n - at_)) := by
  obtain ⟨A', e, r⟩ := own_row_bytes n c at_ (n - at_) A (by omega) h2
  have he : Try.prog.elem 22 = 5 := by kernel_rfl
  refine ⟨A', fun W => ?_, r⟩
  rw [← e W, run_slice_l (P := Try.prog) W 22 A n c (by rw [he]; exact Try.underlying22) .i64 (at_ : Int) (by omega) (by omega), run_slice_lh (P := Try.prog) W 22 A n c (by rw [he]; exact Try.underlying22) .i64 .i64 (at_ : Int) ((at_ : Int) + ((n - at_ : Nat) : Int)) (by omega) (by omega) (by omega)]
  have : ((at_ : Int) + ((n - at_ : Nat) : Int)).toNat = n := by omega
  rw [this]
theorem tenant_same {S S' : Nat → Prop} {w : World} {x y : TV} (hx : x.Rows S w) (hy : y.Rows S' w) (e : x.t = y.t) (h1 : y.t.pool.length ≤ 300) (h2 : y.t.statics.length ≤ 300) (h3 : y.t.twices.length ≤ 300) :
    Calls Try.prog 44 #[.agg x.cells.toArray, .agg y.cells.toArray] w fun e w' => e = .returned (.bool true) ∧ Mod No w w' := by
  have val : ∀ {S : Nat → Prop} {x : TV}, x.Rows S w → TenV S w x.t (.agg x.cells.toArray) := by
    intro S x h
    obtain ⟨P, p, Q, q, R, r, e1, e2, e3, r1, r2, r3⟩ := h
    exact ⟨P, p, Q, q, R, r, by simp [TV.cells, e1, e2, e3], r1, r2, r3⟩
  have h := tenant_ok x.t y.t _ _ (val hx) (val hy) (by rw [e]; omega) (by rw [e]; omega) (by rw [e]; omega)
  rw [e, decide_eq_true rfl] at h
  exact h
end

section
attribute [local go_sem] stPair gtPair gtK8 gtM6 run_store_func
attribute [local go_sem high] neqPair eqK8 eqM6
attribute [local go_sem ↓] load_fold store_fold alloc_fold slice_op_fold con_load_fold chg_load_fold ten_zero_fold con_alloc_fold con_store_fold con_zero_fold chg_alloc_fold chg_store_fold chg_zero_fold chg_put_fold chg_make_fold
open Go.RowKit
set_option linter.unusedVariables false
theorem TV.Rows.size {S : Nat → Prop} {w : World} {x : TV} (h : x.Rows S w) : x.cells.toArray.size = 33 := rfl
/-- Tenants' values: each with rows that are there. -/
def TVl (S : Nat → Prop) (w : World) (A : Option Addr) (l : List TV) : Prop := RowAt S w A (tvCells l) ∧ ∀ x ∈ l, x.Rows S w
theorem TVl.keeps {S : Nat → Prop} {w w' : World} {A : Option Addr} {l : List TV} (h : TVl S w A l) (hk : Keeps S w w') : TVl S w' A l := ⟨h.1.keeps hk, fun x hx => (h.2 x hx).keeps hk⟩
theorem TVl.nil (S : Nat → Prop) (w : World) (A : Option Addr) : TVl S w A [] := ⟨.nil _ _ _, by simp⟩
set_option maxRecDepth 100000 in
theorem tenants_same {S S' : Nat → Prop} {w : World} {A B : Option Addr} {n c d : Nat} {l l' : List TV} (hA : TVl S w A l) (hB : TVl S' w B l') (hn : n = l.length) (he : l.map (·.t) = l'.map (·.t)) (hl : ∀ x ∈ l', x.t.pool.length ≤ 300 ∧ x.t.statics.length ≤ 300 ∧ x.t.twices.length ≤ 300) (h63 : n ≤ 9223372036854775807) :
    Calls Try.prog 45 #[.slice A n c, .slice B n d] w fun e w' => e = .returned (.bool true) ∧ Mod No w w' := by
  have hlen : l'.length = l.length := by have := congrArg List.length he; simpa using this.symm
  have H0 := Lib.hid (And.intro hA (And.intro hB (And.intro hn (And.intro he (And.intro hl hlen)))))
  have hne : ((n : Int) != n) = false := by simp
  clear hA hB hn he hl hlen
  go_enter Try.func45, Try.ntmps45
  go_wp2
  go_loopw [5] (fun i wr => ∃ j : Nat, i = .int .i64 j ∧ j ≤ n ∧ Mod No w wr) (fun i _ => n - (intOf i).toNat)
  case atStart => exact ⟨0, rfl, by omega, Mod.refl _ _⟩
  case round =>
    obtain ⟨j, rfl, hj, hmw⟩ := hrel
    have HM := Lib.hid hmw
    clear hmw
    by_cases hlt : j < n
    · obtain ⟨x, hx⟩ : ∃ x, l[j]? = some x := ⟨_, List.getElem?_eq_getElem (by have := H0.out.2.2.1; omega)⟩
      obtain ⟨y, hy⟩ : ∃ y, l'[j]? = some y := ⟨_, List.getElem?_eq_getElem (by have := H0.out.2.2.1; have := H0.out.2.2.2.2.2; omega)⟩
      have hxy : x.t = y.t := by
        have h1 := congrArg (fun m => m[j]?) H0.out.2.2.2.1
        simpa [hx, hy] using h1
      have kA := H0.out.1.keeps (HM.out.keeps (fun _ _ _ f => f))
      have kB := H0.out.2.1.keeps (HM.out.keeps (fun _ _ _ f => f))
      obtain ⟨b, o, rfl, _, _, hx0⟩ := kA.1.elem TV.cells 33 TV.len (by omega) hx
      obtain ⟨b', o', rfl, _, _, hy0⟩ := kB.1.elem TV.cells 33 TV.len (by omega) hy
      have hkd : ∀ S, Keeps S wr wr.drew := fun S => (Mod.refl No _).drew.keeps (fun _ _ _ f => f)
      have hld1 := tenLoad_mid wr.drew b (o + j * 33) x.cells rfl (fun i v hi => (Mod.refl No wr).drew.cell (hx0 i v hi) id)
      have hld2 := tenLoad_mid wr.drew b' (o' + j * 33) y.cells rfl (fun i v hi => (Mod.refl No wr).drew.cell (hy0 i v hi) id)
      have hly := H0.out.2.2.2.2.1 y (List.mem_of_getElem? hy)
      have hs := (tenant_same (w := wr.drew) ((kA.2 x (List.mem_of_getElem? hx)).keeps (hkd _)) ((kB.2 y (List.mem_of_getElem? hy)).keeps (hkd _)) hxy hly.1 hly.2.1 hly.2.2)
      obtain ⟨TX, hTX⟩ : ∃ TX, TX = x.cells.toArray := ⟨_, rfl⟩
      obtain ⟨TY, hTY⟩ : ∃ TY, TY = y.cells.toArray := ⟨_, rfl⟩
      rw [← hTX] at hld1 hs
      rw [← hTY] at hld2 hs
      have HS := Lib.hid hs
      have p1 : (0:Int) ≤ j := by omega
      have p2 : (j:Int) < n := by omega
      clear hx hy hxy kA kB hx0 hy0 hkd hly hs hTX hTY
      go_wp2_with fail
      go_region_law (first | (go_simp; go_at_call 44; refine HS.out.mono ?_; rintro e w9 ⟨rfl, m9⟩; have H9 := Lib.hid m9; clear m9))
      all_goals
        go_wp2
        exact ⟨⟨j + 1, by go_num, by omega, (HM.out.drew).trans H9.out⟩, by simp [intOf]; omega⟩
    · obtain rfl : n = j := by omega
      go_wp2
      go_ret
      exact ⟨rfl, HM.out⟩
set_option maxRecDepth 100000 in
set_option maxHeartbeats 2000000 in
theorem config_same {S S' : Nat → Prop} {w : World} (c : Con) {A B : Option Addr} {n p q : Nat} {l l' : List TV} (hA : TVl S w A l) (hB : TVl S' w B l') (hn : n = l.length) (he : l.map (·.t) = l'.map (·.t)) (hl : ∀ x ∈ l', x.t.pool.length ≤ 300 ∧ x.t.statics.length ≤ 300 ∧ x.t.twices.length ≤ 300) (h63 : n ≤ 9223372036854775807) :
    Calls Try.prog 21 #[.agg (c.cells (.slice A n p)), .agg (c.cells (.slice B n q))] w fun e w' => e = .returned (.bool true) ∧ Mod No w w' := by
  obtain ⟨CA, hCA⟩ : ∃ CA, CA = c.cells (.slice A n p) := ⟨_, rfl⟩
  obtain ⟨CB, hCB⟩ : ∃ CB, CB = c.cells (.slice B n q) := ⟨_, rfl⟩
  have bA := box_con CA (by rw [hCA]; rfl)
  have bB := box_con CB (by rw [hCB]; rfl)
  rw [← hCA, ← hCB]
  obtain ⟨w0, hw0⟩ : ∃ w0, w0 = (w.alloc (.cells CA 38)).alloc (.cells CB 38) := ⟨_, rfl⟩
  have hm0 : Mod No w w0 := by rw [hw0]; exact ((Mod.refl _ _).alloc _).alloc _
  have h1 : w0.heap[w.heap.size]? = some (.cells CA 38 (0, 0)) := by rw [hw0]; exact at20 w _ _
  have h2 : w0.heap[w.heap.size + 1]? = some (.cells CB 38 (0, 0)) := by rw [hw0]; exact at21 w _ _
  have a0 : w0.cell? ⟨w.heap.size, 0, none⟩ = some (.int .u32 (c.ip : Int)) := by rw [blk_cell h1, hCA]; rfl
  have b0 : w0.cell? ⟨w.heap.size + 1, 0, none⟩ = some (.int .u32 (c.ip : Int)) := by rw [blk_cell h2, hCB]; rfl
  have a1 : w0.cell? ⟨w.heap.size, 1, none⟩ = some (.int .u8 (c.mac.b0.toNat : Int)) := by rw [blk_cell h1, hCA]; rfl
  have b1 : w0.cell? ⟨w.heap.size + 1, 1, none⟩ = some (.int .u8 (c.mac.b0.toNat : Int)) := by rw [blk_cell h2, hCB]; rfl
  have a2 : w0.cell? ⟨w.heap.size, 2, none⟩ = some (.int .u8 (c.mac.b1.toNat : Int)) := by rw [blk_cell h1, hCA]; rfl
  have b2 : w0.cell? ⟨w.heap.size + 1, 2, none⟩ = some (.int .u8 (c.mac.b1.toNat : Int)) := by rw [blk_cell h2, hCB]; rfl
  have a3 : w0.cell? ⟨w.heap.size, 3, none⟩ = some (.int .u8 (c.mac.b2.toNat : Int)) := by rw [blk_cell h1, hCA]; rfl
  have b3 : w0.cell? ⟨w.heap.size + 1, 3, none⟩ = some (.int .u8 (c.mac.b2.toNat : Int)) := by rw [blk_cell h2, hCB]; rfl
  have a4 : w0.cell? ⟨w.heap.size, 4, none⟩ = some (.int .u8 (c.mac.b3.toNat : Int)) := by rw [blk_cell h1, hCA]; rfl
  have b4 : w0.cell? ⟨w.heap.size + 1, 4, none⟩ = some (.int .u8 (c.mac.b3.toNat : Int)) := by rw [blk_cell h2, hCB]; rfl
  have a5 : w0.cell? ⟨w.heap.size, 5, none⟩ = some (.int .u8 (c.mac.b4.toNat : Int)) := by rw [blk_cell h1, hCA]; rfl
  have b5 : w0.cell? ⟨w.heap.size + 1, 5, none⟩ = some (.int .u8 (c.mac.b4.toNat : Int)) := by rw [blk_cell h2, hCB]; rfl
  have a6 : w0.cell? ⟨w.heap.size, 6, none⟩ = some (.int .u8 (c.mac.b5.toNat : Int)) := by rw [blk_cell h1, hCA]; rfl
  have b6 : w0.cell? ⟨w.heap.size + 1, 6, none⟩ = some (.int .u8 (c.mac.b5.toNat : Int)) := by rw [blk_cell h2, hCB]; rfl
  have a7 : w0.cell? ⟨w.heap.size, 7, none⟩ = some (.int .u8 (c.omac.b0.toNat : Int)) := by rw [blk_cell h1, hCA]; rfl
  have b7 : w0.cell? ⟨w.heap.size + 1, 7, none⟩ = some (.int .u8 (c.omac.b0.toNat : Int)) := by rw [blk_cell h2, hCB]; rfl
  have a8 : w0.cell? ⟨w.heap.size, 8, none⟩ = some (.int .u8 (c.omac.b1.toNat : Int)) := by rw [blk_cell h1, hCA]; rfl
  have b8 : w0.cell? ⟨w.heap.size + 1, 8, none⟩ = some (.int .u8 (c.omac.b1.toNat : Int)) := by rw [blk_cell h2, hCB]; rfl
  have a9 : w0.cell? ⟨w.heap.size, 9, none⟩ = some (.int .u8 (c.omac.b2.toNat : Int)) := by rw [blk_cell h1, hCA]; rfl
  have b9 : w0.cell? ⟨w.heap.size + 1, 9, none⟩ = some (.int .u8 (c.omac.b2.toNat : Int)) := by rw [blk_cell h2, hCB]; rfl
  have a10 : w0.cell? ⟨w.heap.size, 10, none⟩ = some (.int .u8 (c.omac.b3.toNat : Int)) := by rw [blk_cell h1, hCA]; rfl
  have b10 : w0.cell? ⟨w.heap.size + 1, 10, none⟩ = some (.int .u8 (c.omac.b3.toNat : Int)) := by rw [blk_cell h2, hCB]; rfl
  have a11 : w0.cell? ⟨w.heap.size, 11, none⟩ = some (.int .u8 (c.omac.b4.toNat : Int)) := by rw [blk_cell h1, hCA]; rfl
  have b11 : w0.cell? ⟨w.heap.size + 1, 11, none⟩ = some (.int .u8 (c.omac.b4.toNat : Int)) := by rw [blk_cell h2, hCB]; rfl
  have a12 : w0.cell? ⟨w.heap.size, 12, none⟩ = some (.int .u8 (c.omac.b5.toNat : Int)) := by rw [blk_cell h1, hCA]; rfl
  have b12 : w0.cell? ⟨w.heap.size + 1, 12, none⟩ = some (.int .u8 (c.omac.b5.toNat : Int)) := by rw [blk_cell h2, hCB]; rfl
  have a13 : w0.cell? ⟨w.heap.size, 13, none⟩ = some (.int .u8 (c.nmac.b0.toNat : Int)) := by rw [blk_cell h1, hCA]; rfl
  have b13 : w0.cell? ⟨w.heap.size + 1, 13, none⟩ = some (.int .u8 (c.nmac.b0.toNat : Int)) := by rw [blk_cell h2, hCB]; rfl
  have a14 : w0.cell? ⟨w.heap.size, 14, none⟩ = some (.int .u8 (c.nmac.b1.toNat : Int)) := by rw [blk_cell h1, hCA]; rfl
  have b14 : w0.cell? ⟨w.heap.size + 1, 14, none⟩ = some (.int .u8 (c.nmac.b1.toNat : Int)) := by rw [blk_cell h2, hCB]; rfl
  have a15 : w0.cell? ⟨w.heap.size, 15, none⟩ = some (.int .u8 (c.nmac.b2.toNat : Int)) := by rw [blk_cell h1, hCA]; rfl
  have b15 : w0.cell? ⟨w.heap.size + 1, 15, none⟩ = some (.int .u8 (c.nmac.b2.toNat : Int)) := by rw [blk_cell h2, hCB]; rfl
  have a16 : w0.cell? ⟨w.heap.size, 16, none⟩ = some (.int .u8 (c.nmac.b3.toNat : Int)) := by rw [blk_cell h1, hCA]; rfl
  have b16 : w0.cell? ⟨w.heap.size + 1, 16, none⟩ = some (.int .u8 (c.nmac.b3.toNat : Int)) := by rw [blk_cell h2, hCB]; rfl
  have a17 : w0.cell? ⟨w.heap.size, 17, none⟩ = some (.int .u8 (c.nmac.b4.toNat : Int)) := by rw [blk_cell h1, hCA]; rfl
  have b17 : w0.cell? ⟨w.heap.size + 1, 17, none⟩ = some (.int .u8 (c.nmac.b4.toNat : Int)) := by rw [blk_cell h2, hCB]; rfl
  have a18 : w0.cell? ⟨w.heap.size, 18, none⟩ = some (.int .u8 (c.nmac.b5.toNat : Int)) := by rw [blk_cell h1, hCA]; rfl
  have b18 : w0.cell? ⟨w.heap.size + 1, 18, none⟩ = some (.int .u8 (c.nmac.b5.toNat : Int)) := by rw [blk_cell h2, hCB]; rfl
  have a19 : w0.cell? ⟨w.heap.size, 19, none⟩ = some (.int .u8 (c.key.b0.toNat : Int)) := by rw [blk_cell h1, hCA]; rfl
  have b19 : w0.cell? ⟨w.heap.size + 1, 19, none⟩ = some (.int .u8 (c.key.b0.toNat : Int)) := by rw [blk_cell h2, hCB]; rfl
  have a20 : w0.cell? ⟨w.heap.size, 20, none⟩ = some (.int .u8 (c.key.b1.toNat : Int)) := by rw [blk_cell h1, hCA]; rfl
  have b20 : w0.cell? ⟨w.heap.size + 1, 20, none⟩ = some (.int .u8 (c.key.b1.toNat : Int)) := by rw [blk_cell h2, hCB]; rfl
  have a21 : w0.cell? ⟨w.heap.size, 21, none⟩ = some (.int .u8 (c.key.b2.toNat : Int)) := by rw [blk_cell h1, hCA]; rfl
  have b21 : w0.cell? ⟨w.heap.size + 1, 21, none⟩ = some (.int .u8 (c.key.b2.toNat : Int)) := by rw [blk_cell h2, hCB]; rfl
  have a22 : w0.cell? ⟨w.heap.size, 22, none⟩ = some (.int .u8 (c.key.b3.toNat : Int)) := by rw [blk_cell h1, hCA]; rfl
  have b22 : w0.cell? ⟨w.heap.size + 1, 22, none⟩ = some (.int .u8 (c.key.b3.toNat : Int)) := by rw [blk_cell h2, hCB]; rfl
  have a23 : w0.cell? ⟨w.heap.size, 23, none⟩ = some (.int .u8 (c.key.b4.toNat : Int)) := by rw [blk_cell h1, hCA]; rfl
  have b23 : w0.cell? ⟨w.heap.size + 1, 23, none⟩ = some (.int .u8 (c.key.b4.toNat : Int)) := by rw [blk_cell h2, hCB]; rfl
  have a24 : w0.cell? ⟨w.heap.size, 24, none⟩ = some (.int .u8 (c.key.b5.toNat : Int)) := by rw [blk_cell h1, hCA]; rfl
  have b24 : w0.cell? ⟨w.heap.size + 1, 24, none⟩ = some (.int .u8 (c.key.b5.toNat : Int)) := by rw [blk_cell h2, hCB]; rfl
  have a25 : w0.cell? ⟨w.heap.size, 25, none⟩ = some (.int .u8 (c.key.b6.toNat : Int)) := by rw [blk_cell h1, hCA]; rfl
  have b25 : w0.cell? ⟨w.heap.size + 1, 25, none⟩ = some (.int .u8 (c.key.b6.toNat : Int)) := by rw [blk_cell h2, hCB]; rfl
  have a26 : w0.cell? ⟨w.heap.size, 26, none⟩ = some (.int .u8 (c.key.b7.toNat : Int)) := by rw [blk_cell h1, hCA]; rfl
  have b26 : w0.cell? ⟨w.heap.size + 1, 26, none⟩ = some (.int .u8 (c.key.b7.toNat : Int)) := by rw [blk_cell h2, hCB]; rfl
  have a27 : w0.cell? ⟨w.heap.size, 27, none⟩ = some (.int .u32 (c.drain : Int)) := by rw [blk_cell h1, hCA]; rfl
  have b27 : w0.cell? ⟨w.heap.size + 1, 27, none⟩ = some (.int .u32 (c.drain : Int)) := by rw [blk_cell h2, hCB]; rfl
  have a28 : w0.cell? ⟨w.heap.size, 28, none⟩ = some (.slice A n p) := by rw [blk_cell h1, hCA]; rfl
  have b28 : w0.cell? ⟨w.heap.size + 1, 28, none⟩ = some (.slice B n q) := by rw [blk_cell h2, hCB]; rfl
  have hT := tenants_same (w := w0) (c := p) (d := q) (hA.keeps (hm0.keeps (fun _ _ _ f => f))) (hB.keeps (hm0.keeps (fun _ _ _ f => f))) hn he hl h63
  have HT := Lib.hid hT
  have HM := Lib.hid hm0
  have HW := Lib.hid hw0
  clear hA hB hn he hl hT hm0 hw0 h1 h2 hCA hCB
  go_enter Try.func21, Try.ntmps21
  go_upto_region 1 with fail
  refine grab_world fun wg hwg => ?_
  rw [← HW.out] at hwg
  subst hwg
  clear HW
  go_wp2_with (first | (go_at_call 45; refine HT.out.mono ?_; rintro e w9 ⟨rfl, m9⟩; have H9 := Lib.hid m9; clear m9) | fail)
  go_ret
  exact ⟨rfl, HM.out.trans H9.out⟩
end

section
attribute [local go_sem] stPair gtPair gtK8 gtM6 run_store_func
attribute [local go_sem high] neqPair eqK8 eqM6
attribute [local go_sem ↓] load_fold store_fold alloc_fold slice_op_fold con_load_fold chg_load_fold ten_zero_fold con_alloc_fold con_store_fold con_zero_fold chg_alloc_fold chg_store_fold chg_zero_fold chg_put_fold chg_make_fold
open Go.RowKit
set_option linter.unusedVariables false
theorem infoChg : (Try.prog.info? 35).map (fun i => (i.zero, i.size)) = some (some (.agg zChg), 35) := by kernel_rfl
theorem list35' {α : Type} : ∀ (l : List α), l.length = 35 → ∃ c0 c1 c2 c3 c4 c5 c6 c7 c8 c9 c10 c11 c12 c13 c14 c15 c16 c17 c18 c19 c20 c21 c22 c23 c24 c25 c26 c27 c28 c29 c30 c31 c32 c33 c34, l = [c0, c1, c2, c3, c4, c5, c6, c7, c8, c9, c10, c11, c12, c13, c14, c15, c16, c17, c18, c19, c20, c21, c22, c23, c24, c25, c26, c27, c28, c29, c30, c31, c32, c33, c34]
  | c0 :: c1 :: c2 :: c3 :: c4 :: c5 :: c6 :: c7 :: c8 :: c9 :: c10 :: c11 :: c12 :: c13 :: c14 :: c15 :: c16 :: c17 :: c18 :: c19 :: c20 :: c21 :: c22 :: c23 :: c24 :: c25 :: c26 :: c27 :: c28 :: c29 :: c30 :: c31 :: c32 :: c33 :: c34 :: [], _ => ⟨c0, c1, c2, c3, c4, c5, c6, c7, c8, c9, c10, c11, c12, c13, c14, c15, c16, c17, c18, c19, c20, c21, c22, c23, c24, c25, c26, c27, c28, c29, c30, c31, c32, c33, c34, rfl⟩
set_option maxRecDepth 100000 in
theorem chg_build (CA : Array Value) (h : CA.size = 35) : ∀ W, (Instr.buildSlice 73 1 #[(0, .agg CA)]).run Try.prog W = .ok (.slice (some ⟨W.heap.size, 0, none⟩) 1 1) (W.alloc (.cells CA 35)) := by
  intro W
  have hi := infoChg
  cases hie : Try.prog.info? 35 with
  | none => rw [hie] at hi; simp at hi
  | some ie =>
    rw [hie] at hi
    simp only [Option.map_some, Option.some.injEq, Prod.mk.injEq] at hi
    refine Go.run_buildSlice W _ 35 1 _ CA ie _ Try.underlying73 hie hi.1 (by rw [hi.2]; decide) (by rw [hi.2]; decide) ?_
    rw [hi.2]
    obtain ⟨l⟩ := CA
    obtain ⟨c0, c1, c2, c3, c4, c5, c6, c7, c8, c9, c10, c11, c12, c13, c14, c15, c16, c17, c18, c19, c20, c21, c22, c23, c24, c25, c26, c27, c28, c29, c30, c31, c32, c33, c34, rfl⟩ := list35' l (by simpa using h)
    kernel_rfl
def chgSlice (v : Value) : Sem Value := Instr.buildSlice 73 1 #[(0, v)]
theorem chg_slice_fold (ρ : Operand → Value) (x : Operand) (dst : Option Tmp) (ty : TypeId) (pos : String) (after : Array Edge) (g : Option (Nat × Bool)) :
    execOp ρ { dst := dst, op := .buildSlice 73 1 #[(0, x)], type := ty, pos := pos, after := after, guard := g } = (do pure (Next.value (← chgSlice (ρ x))) : Sem Next) := by
  show (do pure (Next.value (← Instr.buildSlice 73 1 (#[(0, x)].map fun (i, x) => (i, ρ x)))) : Sem Next) = _
  have hm : (#[((0 : Nat), x)].map fun (i, x) => (i, ρ x)) = #[(0, ρ x)] := by simp
  rw [hm]
  rfl
attribute [local go_sem ↓] chg_slice_fold
theorem chgSlice_run (CA : Array Value) (h : CA.size = 35) : ∀ W : World, (chgSlice (.agg CA)).run Try.prog W = .ok (.slice (some ⟨W.heap.size, 0, none⟩) 1 1) (W.alloc (.cells CA 35)) := chg_build CA h
set_option maxRecDepth 100000 in
set_option maxHeartbeats 2000000 in
theorem changes_same {S S' : Nat → Prop} {w : World} (put : Bool) (name : List UInt8) {x y : TV} {g g' : Nat} (hg : w.heap[g]? = some (.cells (cChg put name x) 35 (0, 0))) (hg' : w.heap[g']? = some (.cells (cChg put name y) 35 (0, 0)))
    (hx : x.Rows S w) (hy : y.Rows S' w) (he : x.t = y.t) (hl : y.t.pool.length ≤ 300 ∧ y.t.statics.length ≤ 300 ∧ y.t.twices.length ≤ 300) :
    Calls Try.prog 20 #[.slice (some ⟨g, 0, none⟩) 1 1, .slice (some ⟨g', 0, none⟩) 1 1] w fun e w' => e = .returned (.bool true) ∧ Mod No w w' := by
  have H0 := Lib.hid (And.intro hg (And.intro hg' (And.intro hx (And.intro hy (And.intro he hl)))))
  clear hg hg' hx hy he hl
  go_enter Try.func20, Try.ntmps20
  go_wp2
  go_loopw [5] (fun i wr => ∃ j : Nat, i = .int .i64 j ∧ j ≤ 1 ∧ Mod No w wr) (fun i _ => 1 - (intOf i).toNat)
  case atStart => exact ⟨0, rfl, by omega, Mod.refl _ _⟩
  case round =>
    obtain ⟨j, rfl, hj, hmw⟩ := hrel
    have HM := Lib.hid hmw
    clear hmw
    by_cases hlt : j < 1
    · obtain rfl : j = 0 := by omega
      have b1 := HM.out.obj H0.out.1 id
      have b2 := HM.out.obj H0.out.2.1 id
      obtain ⟨sn, hsn⟩ : ∃ sn, sn = str name := ⟨_, rfl⟩
      obtain ⟨TX, hTX⟩ : ∃ TX, TX = x.cells.toArray := ⟨_, rfl⟩
      obtain ⟨TY, hTY⟩ : ∃ TY, TY = y.cells.toArray := ⟨_, rfl⟩
      have hS : ∀ W, Mod No wr W → W.cell? ⟨g, 0, none⟩ = some (.bool put) ∧ W.cell? ⟨g', 0, none⟩ = some (.bool put) ∧ W.cell? ⟨g, 1, none⟩ = some (.string sn) ∧ W.cell? ⟨g', 1, none⟩ = some (.string sn) ∧
          (tenLoad (.pointer (some ⟨g, 2, none⟩))).run Try.prog W = .ok (.agg TX) W ∧ (tenLoad (.pointer (some ⟨g', 2, none⟩))).run Try.prog W = .ok (.agg TY) W := fun W hW => by
        have b1 := hW.obj b1 id
        have b2 := hW.obj b2 id
        rw [hsn, hTX, hTY]
        exact ⟨(blk_cell b1 0).trans (cChg0 put name x), (blk_cell b2 0).trans (cChg0 put name y), (blk_cell b1 1).trans (cChg1 put name x), (blk_cell b2 1).trans (cChg1 put name y), chgTen_run b1, chgTen_run b2⟩
      have hs : ∀ W, Mod No wr W → Calls Try.prog 44 #[.agg TX, .agg TY] W fun e w' => e = .returned (.bool true) ∧ Mod No W w' := fun W hW => by
        have hkd : ∀ S, Keeps S w W := fun S => (HM.out.trans hW).keeps (fun _ _ _ f => f)
        rw [hTX, hTY]
        exact tenant_same (w := W) (H0.out.2.2.1.keeps (hkd _)) (H0.out.2.2.2.1.keeps (hkd _)) H0.out.2.2.2.2.1 H0.out.2.2.2.2.2.1 H0.out.2.2.2.2.2.2.1 H0.out.2.2.2.2.2.2.2
      have HS := Lib.hid hs
      have HSS := Lib.hid hS
      have q0 : (put == put) = true := by cases put <;> rfl
      have q1 : (put != put) = false := by cases put <;> rfl
      have q2 : (sn.toList != sn.toList) = false := by simp
      have q3 : (sn.toList == sn.toList) = true := by simp
      clear b1 b2 hs hTX hTY hS hsn
      go_wp2_with fail
      go_region_held3 (fun W => W.cell? ⟨g, 0, none⟩ = some (.bool put) ∧ W.cell? ⟨g', 0, none⟩ = some (.bool put) ∧ W.cell? ⟨g, 1, none⟩ = some (.string sn) ∧ W.cell? ⟨g', 1, none⟩ = some (.string sn) ∧
          (tenLoad (.pointer (some ⟨g, 2, none⟩))).run Try.prog W = .ok (.agg TX) W ∧ (tenLoad (.pointer (some ⟨g', 2, none⟩))).run Try.prog W = .ok (.agg TY) W)
        (exact HSS.out _ (by (repeat (first | with_reducible exact Mod.refl _ _ | with_reducible refine Mod.trans ?_ m9 | refine Mod.drew ?_))))
        (first
          | (go_at_call 44; refine (HS.out _ ?_).mono ?_; (repeat (first | with_reducible exact Mod.refl _ _ | refine Mod.drew ?_)); rintro e w9 ⟨rfl, m9⟩))
      all_goals
        go_wp2
        exact ⟨⟨1, by go_num, by omega, HM.out.trans (by (repeat (first | with_reducible exact Mod.refl _ _ | with_reducible refine Mod.trans ?_ m9 | refine Mod.drew ?_)))⟩, by simp [intOf]⟩
    · obtain rfl : j = 1 := by omega
      go_wp2
      go_ret
      exact ⟨rfl, HM.out⟩
end

section
attribute [local go_sem] stPair gtPair gtK8 gtM6 run_store_func
attribute [local go_sem high] neqPair eqK8 eqM6
attribute [local go_sem ↓] load_fold store_fold alloc_fold slice_op_fold con_load_fold chg_load_fold ten_zero_fold con_alloc_fold con_store_fold con_zero_fold chg_alloc_fold chg_store_fold chg_zero_fold chg_put_fold chg_make_fold chg_slice_fold
open Go.RowKit
set_option linter.unusedVariables false
/-- A tenant stored into the middle of a block that is known whole. -/
theorem tenStore_in {W : World} {b o : Nat} {cur CA : Array Value} {t : TypeId} (h : W.heap[b]? = some (.cells cur t (0, 0))) (ho : o + 33 ≤ cur.size) (hc : CA.size = 33) (h1 : CA.all (·.oneCell') = true) :
    (tenStore (.pointer (some ⟨b, o, none⟩)) (.agg CA)).run Try.prog W = .ok () (W.setRow b (cur.toList.take o ++ CA.toList ++ cur.toList.drop (o + 33)).toArray) := by
  have hl : CA.toList.length = 33 := by simpa using hc
  have := run_storeCells_at (P := Try.prog) b o t CA.toList 0 cur W h (by rw [hl]; omega) (fun v hv => (Array.all_eq_true_iff_forall_mem.1 h1) v (by simpa using hv))
  simp only [Nat.add_zero, hl] at this
  simp only [tenStore, Instr.storeAt, Instr.sureAddr, Sem.run_bind, Sem.run_pure, Result.andThen_ok]
  cases hq : Try.prog.info? 33 with
  | none => have := tenSize; simp [hq] at this
  | some i =>
    have hs : i.size = 33 := by have := tenSize; simpa [hq] using this
    simp [storeVar, sizeOf, typeInfo, hq, Value.cells, hs, hc, this]
theorem cChg_in (put : Bool) (name : List UInt8) (x y : TV) : (((cChg put name x).toList.take 2 ++ y.cells.toArray.toList ++ (cChg put name x).toList.drop (2 + 33)).toArray : Array Value) = cChg put name y := by
  have e : (cChg put name x).toList = [Value.bool put, .string (str name)] ++ x.cells := by simp [cChg]
  rw [e]
  have h1 : ([Value.bool put, .string (str name)] ++ x.cells).take 2 = [Value.bool put, .string (str name)] := by rw [List.take_append_of_le_length (by simp)]; rfl
  have h2 : ([Value.bool put, .string (str name)] ++ x.cells).drop (2 + 33) = [] := List.drop_of_length_le (by rw [List.length_append, TV.len]; simp)
  rw [h1, h2]
  simp [cChg]
theorem zero_ok : Ten.zero.Ok := ⟨by decide, by decide, by decide, by decide, by decide, by decide, (fun x hx => by cases hx), (fun x hx => by cases hx), (fun x hx => by cases hx)⟩
end

section
attribute [local go_sem] stPair gtPair gtK8 gtM6 run_store_func
attribute [local go_sem high] neqPair eqK8 eqM6
attribute [local go_sem ↓] load_fold store_fold alloc_fold slice_op_fold con_load_fold chg_load_fold ten_zero_fold con_alloc_fold con_store_fold con_zero_fold chg_alloc_fold chg_store_fold chg_zero_fold chg_put_fold macLoad_fold macStore_fold keyLoad_fold keyStore_fold chg_make_fold chg_slice_fold
open Go.RowKit
set_option linter.unusedVariables false
set_option linter.unusedSimpArgs false
abbrev ocNone : Bool × List UInt8 × Ten × Nat := (false, [], .zero, 70)
theorem rnum1_nil : rnum [] 1 (0, false) = (0, (0, true)) := rfl
theorem rnum1_cons (b : UInt8) (r : List UInt8) : rnum (b :: r) 1 (0, false) = (b.toNat, (1, false)) := by
  simp [rnum, rtake, beval]
theorem ocg_eq (B : List UInt8) : ocg B = if (rnum B 1 (0, false)).2.2 = true ∨ 1 < (rnum B 1 (0, false)).1 then ocNone else
    if (rnum B 1 (0, false)).1 = 1 then (if (rten B (rnum B 1 (0, false)).2).2 = (B.length, false) then (true, (rten B (rnum B 1 (0, false)).2).1.name, (rten B (rnum B 1 (0, false)).2).1, 0) else ocNone)
    else (if (rname B (rnum B 1 (0, false)).2).2 = (B.length, false) then (false, (rname B (rnum B 1 (0, false)).2).1, .zero, 0) else ocNone) := by
  cases B with
  | nil => rw [rnum1_nil, if_pos (Or.inl rfl)]; rfl
  | cons b r =>
    rw [rnum1_cons]
    by_cases h1 : 1 < b.toNat
    · rw [if_pos (Or.inr h1)]; simp [ocg, h1]
    · rw [if_neg (by simp; omega)]
      by_cases h2 : b = 1
      · subst h2
        simp only [ocg, if_neg h1, if_pos, List.length_cons]
        rfl
      · have hb0 : b = 0 := by
          apply UInt8.toNat_inj.1
          have : b.toNat ≠ 1 := fun e => h2 (UInt8.toNat_inj.1 e)
          simp; omega
        subst hb0
        simp only [ocg, if_neg h1, if_neg h2, List.length_cons]
        rfl
theorem zChg_c : zChg = cChg false [] TV.zero := rfl
set_option maxRecDepth 100000 in
set_option maxHeartbeats 4000000 in
theorem refOpenChange_ok {w : World} {A : Option Addr} {c : Nat} (B : List UInt8) (hrow : RowAt (fun b => b < w.heap.size) w A (bcells B)) (hc : B.length ≤ c) (hB : B.length ≤ 100000000) :
    Calls Try.prog 18 #[.slice A B.length c] w (OpenChgP (ocg B) w) := by
  obtain ⟨W, hW⟩ : ∃ W, W = ((w.alloc (.cells zChg 35)).alloc (.cells #[.slice A B.length c, .int .i64 0, .bool false] 88)).alloc (.cells zChg 35) := ⟨_, rfl⟩
  have hmW : Mod No w W := by rw [hW]; exact (((Mod.refl _ _).alloc _).alloc _).alloc _
  have hsz : W.heap.size = w.heap.size + 3 := by rw [hW]; simp
  have hX : W.heap[w.heap.size]? = some (.cells zChg 35 (0, 0)) := by rw [hW]; exact at30 w _ _ _
  have hC : W.heap[w.heap.size + 1]? = some (rrObj A B.length c 0 false) := by rw [hW]; exact at31 w _ _ _
  have hT : W.heap[w.heap.size + 2]? = some (.cells zChg 35 (0, 0)) := by rw [hW]; exact at32 w _ _ _
  have hrW := hrow.keeps (hmW.keeps (fun _ _ _ f => f))
  have HN := rr_n (w := W) (s := (0, false)) (S := fun b => b < w.heap.size) B hC hrW (Nat.zero_le _) hc hB 1 (by omega) (by omega)
  have hle := rnum_le B 1 (0, false) (Nat.zero_le _)
  have hog := ocg_eq B
  have hk8 := rnum_lt B 1 (0, false)
  obtain ⟨k, hk⟩ : ∃ k, k = (rnum B 1 (0, false)).1 := ⟨_, rfl⟩
  obtain ⟨s1, hs1⟩ : ∃ s1, s1 = (rnum B 1 (0, false)).2 := ⟨_, rfl⟩
  rw [← hk, ← hs1] at HN hog
  rw [← hs1] at hle
  rw [← hk] at hk8
  -- what the two readers do behind the first byte
  have hten : ∀ W1 : World, Mod (fun b => b = w.heap.size + 1) W W1 → W1.heap[w.heap.size + 1]? = some (rrObj A B.length c s1.1 s1.2) → Calls Try.prog 40 #[.pointer (some ⟨w.heap.size + 1, 0, none⟩)] W1 fun e w' => ∃ x : TV, e = .returned (.agg x.cells.toArray) ∧ x.t = (rten B s1).1 ∧ x.Rows (fun b => w.heap.size + 3 ≤ b) w' ∧ w'.heap[w.heap.size + 1]? = some (rrObj A B.length c (rten B s1).2.1 (rten B s1).2.2) ∧ Mod (fun b => b = w.heap.size + 1) W w' := by
    intro W1 hm h1
    have := hm.size
    refine (rr_tenant (S := fun b => b < w.heap.size) B h1 (hrW.keeps (hm.keeps (fun b _ hb f => by omega))) hle hc hB (by omega) (fun b hb => by omega)).mono ?_
    rintro e w' ⟨x, he, hx, hr, hb, hm'⟩
    exact ⟨x, he, hx, hr.imp (fun b hb => by omega), hb, hm.trans hm'⟩
  have hnam : ∀ W1 : World, Mod (fun b => b = w.heap.size + 1) W W1 → W1.heap[w.heap.size + 1]? = some (rrObj A B.length c s1.1 s1.2) → Calls Try.prog 41 #[.pointer (some ⟨w.heap.size + 1, 0, none⟩)] W1 fun e w' => e = .returned (.string (str (rname B s1).1)) ∧ w'.heap[w.heap.size + 1]? = some (rrObj A B.length c (rname B s1).2.1 (rname B s1).2.2) ∧ Mod (fun b => b = w.heap.size + 1) W w' := by
    intro W1 hm h1
    refine (rr_name (S := fun b => b < w.heap.size) B h1 (hrW.keeps (hm.keeps (fun b _ hb f => by omega))) hle hc hB (by omega)).mono ?_
    rintro e w' ⟨he, hb, hm'⟩
    exact ⟨he, hb, hm.trans hm'⟩
  obtain ⟨n0, hn0⟩ : ∃ n0, n0 = B.length := ⟨_, rfl⟩
  rw [← hn0] at hW HN hog hten hnam
  rw [← hn0]
  have HN := Lib.hid HN
  have HM := Lib.hid (And.intro hmW (And.intro hX (And.intro hsz hT)))
  have HW := Lib.hid hW
  have HTN := Lib.hid hten
  have HNM := Lib.hid hnam
  have HOG := Lib.hid hog
  have hal := chgAlloc_run
  have hzr := chgZero_run
  clear hmW hX hC hW hT hrow hc hB hn0 hsz hten hnam hog hrW hle hs1 hk
  go_enter Try.func18, Try.ntmps18
  go_upto_region 5 with (first | (go_at_call 39; (first | rw [← HW.out] | skip); refine HN.out.mono ?_; rintro e w1 ⟨rfl, k1, m1⟩; have H1 := Lib.hid (And.intro k1 m1); clear k1 m1) | fail)
  obtain ⟨at1, sh1⟩ := s1
  have d2 : w1.cell? ⟨w.heap.size + 1, 2, none⟩ = some (.bool sh1) := (blk_cell H1.out.1 2).trans rfl
  have hX1 : w1.heap[w.heap.size]? = some (.cells zChg 35 (0, 0)) := H1.out.2.obj HM.out.2.1 (by omega)
  have hT1 : w1.heap[w.heap.size + 2]? = some (.cells zChg 35 (0, 0)) := H1.out.2.obj HM.out.2.2.2 (by omega)
  have hm1 : Mod No w w1 := HM.out.1.trans' H1.out.2 (fun i hi f => by omega)
  have HB1 := Lib.hid (And.intro hX1 (And.intro hT1 hm1))
  clear hX1 hT1 hm1
  by_cases hbd : sh1 = true ∨ 1 < k
  · have hbad : ocg B = ocNone := by rw [HOG.out, if_pos hbd]
    have hor : sh1 = true ∨ sh1 = false ∧ (1 : Int) < (k : Int) := by
      cases sh1
      · exact .inr ⟨rfl, by rcases hbd with f | f; simp at f; omega⟩
      · exact .inl rfl
    clear hbd
    rcases hor with rfl | ⟨rfl, h1k⟩
    · have hst := chgStore_row (CA := zChg) HB1.out.1 zSize zSize zOne
      have hres := setRow_heap w1 w.heap.size _ zChg _ _ HB1.out.1
      have HBAD := Lib.hid hbad
      have HRS := Lib.hid hres
      clear hbad hres
      go_wp2
      refine bodyPost_ret (results_cell_tmp rfl _ _ w.heap.size 35 zChg (0, 0) _ rfl HRS.out Try.underlying35 rfl (by rw [chgSize, zSize])) rfl ?_
      rw [HBAD.out]
      exact openChg_none rfl (HB1.out.2.2.trans' (setRow_mod zChg) (fun i hi f => by omega))
    · have hst := chgStore_row (CA := zChg) HB1.out.1 zSize zSize zOne
      have hres := setRow_heap w1 w.heap.size _ zChg _ _ HB1.out.1
      have HBAD := Lib.hid hbad
      have HRS := Lib.hid hres
      clear hbad hres
      go_wp2
      refine bodyPost_ret (results_cell_tmp rfl _ _ w.heap.size 35 zChg (0, 0) _ rfl HRS.out Try.underlying35 rfl (by rw [chgSize, zSize])) rfl ?_
      rw [HBAD.out]
      exact openChg_none rfl (HB1.out.2.2.trans' (setRow_mod zChg) (fun i hi f => by omega))
  · obtain rfl : sh1 = false := by
      cases sh1
      · rfl
      · exact absurd (Or.inl rfl) hbd
    have hk1 : k = 1 ∨ k = 0 := by
      have : ¬ 1 < k := fun f => hbd (.inr f)
      omega
    have hog2 := HOG.out
    rw [if_neg hbd] at hog2
    clear hbd
    rcases hk1 with rfl | rfl
    · rw [if_pos rfl] at hog2
      have HO2 := Lib.hid hog2
      clear hog2
      have hzt := HTN.out w1 H1.out.2 H1.out.1
      obtain ⟨q, hq⟩ : ∃ q, q = rten B (at1, false) := ⟨_, rfl⟩
      rw [← hq] at hzt HO2
      have HT := Lib.hid hzt
      clear hzt hq
      go_upto_region 8 with fail
      -- the tenant goes into the change
      have hT0 : ∀ w2 : World, w2.heap[w.heap.size + 2]? = some (.cells zChg 35 (0, 0)) → (w2.setCell ⟨w.heap.size + 2, 0, none⟩ (.bool true)).heap[w.heap.size + 2]? = some (.cells (cChg true [] TV.zero) 35 (0, 0)) := fun w2 h => by rw [heap_setCell_row h]; rfl
      have HT0 := Lib.hid hT0
      clear hT0
      go_upto_region 10 with (first | (go_at_call 40; refine HT.out.mono ?_; rintro e w2 ⟨x, rfl, k0, kr, k1, m2⟩; have hT2 : w2.heap[w.heap.size + 2]? = some (.cells zChg 35 (0, 0)) := m2.obj HM.out.2.2.2 (by omega); have c20 : w2.cell? ⟨w.heap.size + 2, 0, none⟩ = some (.bool false) := (blk_cell hT2 0).trans rfl; have f20 := blk_free hT2 0; have hT3 := HT0.out w2 hT2; obtain ⟨TA, hTA⟩ : ∃ TA, TA = x.cells.toArray := ⟨_, rfl⟩; rw [← hTA]; have hst3 := tenStore_in (o := 2) (CA := TA) hT3 (by rw [cChg_size]; decide) (by rw [hTA]; rfl) (by rw [hTA]; exact TV.one kr); rw [hTA, cChg_in, ← hTA] at hst3; obtain ⟨w4, hw4⟩ : ∃ w4, w4 = (w2.setCell ⟨w.heap.size + 2, 0, none⟩ (.bool true)).setRow (w.heap.size + 2) (cChg true [] x) := ⟨_, rfl⟩; rw [← hw4] at hst3; have hT4 : w4.heap[w.heap.size + 2]? = some (.cells (cChg true [] x) 35 (0, 0)) := (by rw [hw4]; exact setRow_heap _ _ _ _ _ _ hT3); have c42 : w4.cell? ⟨w.heap.size + 2, 2, none⟩ = some (.string (str x.t.name)) := (blk_cell hT4 2).trans (cChg_at2 _ _ _); have c41 : w4.cell? ⟨w.heap.size + 2, 1, none⟩ = some (.string (str [])) := (blk_cell hT4 1).trans (cChg1 _ _ _); have f41 := blk_free hT4 1; have H2 := Lib.hid (And.intro k0 (And.intro kr (And.intro k1 (And.intro m2 (And.intro hw4 (And.intro hT4 hT2)))))); clear k0 kr k1 m2 hw4 hT4 hT3 hT2 hTA) | fail)
      refine grab_world fun V hV => ?_
      obtain ⟨k0, kr, k1, m2, hw4, hT4, hT2⟩ := H2.out
      obtain ⟨qt, at_, sh⟩ := q
      have m4 : Mod (fun b => b = w.heap.size + 2) w2 V := by
        rw [hV, hw4]
        exact Mod.setCell ((Mod.setCell (p := ⟨w.heap.size + 2, 0, none⟩) (Mod.refl (fun b => b = w.heap.size + 2) w2) (.inr rfl) _).trans (setRow_mod _)) (p := ⟨w.heap.size + 2, 1, none⟩) (.inr rfl) _
      have hTV0 : V.heap[w.heap.size + 2]? = some (.cells (cChg true x.t.name x) 35 (0, 0)) := by rw [hV, heap_setCell_row hT4, cChg_set1]
      obtain ⟨CX, hCX⟩ : ∃ CX, CX = cChg true x.t.name x := ⟨_, rfl⟩
      have hTV : V.heap[w.heap.size + 2]? = some (.cells CX 35 (0, 0)) := by rw [hCX]; exact hTV0
      have hXV : V.heap[w.heap.size]? = some (.cells zChg 35 (0, 0)) := m4.obj (m2.obj HM.out.2.1 (by omega)) (by omega)
      have hCV : V.heap[w.heap.size + 1]? = some (rrObj A n0 c at_ sh) := m4.obj k1 (by omega)
      have hmV : Mod No w V := (HM.out.1.trans' m2 (fun i hi f => by omega)).trans' m4 (fun i hi f => by omega)
      have hrV : x.Rows (fun b => w.heap.size + 3 ≤ b) V := kr.keeps (m4.keeps (fun b _ hb f => by omega))
      have hCs : CX.size = 35 := by rw [hCX]; exact cChg_size _ _ _
      have hone : CX.all (·.oneCell') = true := by rw [hCX]; exact cChg_one _ _ kr
      have hoc := HO2.out
      have HK0 := Lib.hid k0
      clear k0 kr k1 m2 hw4 hT4 hT2 m4 hTV0 hV H2 d2 c20 f20 hst3 c42 c41 f41
      have HEND := Lib.hid (And.intro hXV (And.intro hTV (And.intro hmV (And.intro hrV (And.intro hCX (And.intro hCs hone))))))
      have dV2 : V.cell? ⟨w.heap.size + 1, 2, none⟩ = some (.bool sh) := (blk_cell hCV 2).trans rfl
      have dV1 : V.cell? ⟨w.heap.size + 1, 1, none⟩ = some (.int .i64 (at_ : Int)) := (blk_cell hCV 1).trans rfl
      have hldV := chgLoad_run hTV hCs
      have hstV := chgStore_row (CA := CX) hXV zSize hCs hone
      have hstZ := chgStore_row (CA := zChg) hXV zSize zSize zOne
      have hresV := setRow_heap V w.heap.size _ CX _ _ hXV
      have hresZ := setRow_heap V w.heap.size _ zChg _ _ hXV
      have HRS := Lib.hid (And.intro hresV hresZ)
      have HOC := Lib.hid hoc
      clear hXV hTV hmV hrV hCX hCs hone hCV hresV hresZ hoc
      by_cases hg : ((at_, sh) : St) = (n0, false)
      · obtain ⟨e1, e2⟩ := Prod.mk.inj hg
        subst e1 e2
        have HGD := Lib.hid (show ocg B = (true, qt.name, qt, 0) from HOC.out.trans (if_pos rfl))
        clear hg hstZ
        go_wp2
        refine bodyPost_ret (results_cell_tmp rfl _ _ w.heap.size 35 CX (0, 0) _ rfl HRS.out.1 Try.underlying35 rfl (by rw [chgSize, HEND.out.2.2.2.2.2.1])) rfl ?_
        obtain ⟨k1, k2, k3, k4, k5, k6, k7⟩ := HEND.out
        rw [HGD.out]
        refine ⟨x, by rw [k5]; rw [HK0.out]; rfl, HK0.out, ?_, k3.trans' (setRow_mod CX) (fun i hi f => by omega)⟩
        exact (k4.keeps ((setRow_mod (w := V) (g := w.heap.size) CX).keeps (fun b _ hb f => by omega))).imp (fun b hb => by omega)
      · have hz : OpenChgP (ocg B) w = OpenChgP ocNone w := by rw [HOC.out, if_neg hg]
        have HZ := Lib.hid hz
        have hor : sh = true ∨ sh = false ∧ ¬ (at_ : Int) = (n0 : Int) := by
          cases sh
          · exact .inr ⟨rfl, fun e => hg (by rw [Int.ofNat_inj.1 e])⟩
          · exact .inl rfl
        clear hz hg hstV
        rcases hor with rfl | ⟨rfl, hne⟩
        all_goals
          go_wp2
          refine bodyPost_ret (results_cell_tmp rfl _ _ w.heap.size 35 zChg (0, 0) _ rfl HRS.out.2 Try.underlying35 rfl (by rw [chgSize, zSize])) rfl ?_
          rw [HZ.out]
          exact openChg_none rfl (HEND.out.2.2.1.trans' (setRow_mod zChg) (fun i hi f => by omega))
    · rw [if_neg (by decide)] at hog2
      have HO2 := Lib.hid hog2
      clear hog2
      have hzt := HNM.out w1 H1.out.2 H1.out.1
      obtain ⟨q, hq⟩ : ∃ q, q = rname B (at1, false) := ⟨_, rfl⟩
      rw [← hq] at hzt HO2
      have HT := Lib.hid hzt
      clear hzt hq
      obtain ⟨qt, at_, sh⟩ := q
      go_upto_region 10 with (first | (go_at_call 41; refine HT.out.mono ?_; rintro e w2 ⟨rfl, k1, m2⟩; have hT2 : w2.heap[w.heap.size + 2]? = some (.cells zChg 35 (0, 0)) := m2.obj HM.out.2.2.2 (by omega); have c21 : w2.cell? ⟨w.heap.size + 2, 1, none⟩ = some (.string (str [])) := (blk_cell hT2 1).trans rfl; have f21 := blk_free hT2 1; have H2 := Lib.hid (And.intro k1 (And.intro m2 hT2)); clear k1 m2 hT2) | fail)
      refine grab_world fun V hV => ?_
      obtain ⟨k1, m2, hT2⟩ := H2.out
      have m4 : Mod (fun b => b = w.heap.size + 2) w2 V := by
        rw [hV]
        exact Mod.setCell (p := ⟨w.heap.size + 2, 1, none⟩) (Mod.refl (fun b => b = w.heap.size + 2) w2) (.inr rfl) _
      obtain ⟨x, hx⟩ : ∃ x, x = TV.zero := ⟨_, rfl⟩
      obtain ⟨CX, hCX⟩ : ∃ CX, CX = cChg false qt x := ⟨_, rfl⟩
      have hTV : V.heap[w.heap.size + 2]? = some (.cells CX 35 (0, 0)) := by rw [hV, heap_setCell_row hT2, zChg_c, cChg_set1, hCX, hx]
      have hXV : V.heap[w.heap.size]? = some (.cells zChg 35 (0, 0)) := m4.obj (m2.obj HM.out.2.1 (by omega)) (by omega)
      have hCV : V.heap[w.heap.size + 1]? = some (rrObj A n0 c at_ sh) := m4.obj k1 (by omega)
      have hmV : Mod No w V := (HM.out.1.trans' m2 (fun i hi f => by omega)).trans' m4 (fun i hi f => by omega)
      have hrV : x.Rows (fun b => w.heap.size + 3 ≤ b) V := by rw [hx]; exact TV.zero_rows _ _
      have hCs : CX.size = 35 := by rw [hCX]; exact cChg_size _ _ _
      have hone : CX.all (·.oneCell') = true := by rw [hCX]; exact cChg_one _ _ hrV
      have hoc := HO2.out
      have HK0 := Lib.hid hx
      clear k1 m2 hT2 m4 hV H2 d2 c21 f21 hx
      have HEND := Lib.hid (And.intro hXV (And.intro hTV (And.intro hmV (And.intro hrV (And.intro hCX (And.intro hCs hone))))))
      have dV2 : V.cell? ⟨w.heap.size + 1, 2, none⟩ = some (.bool sh) := (blk_cell hCV 2).trans rfl
      have dV1 : V.cell? ⟨w.heap.size + 1, 1, none⟩ = some (.int .i64 (at_ : Int)) := (blk_cell hCV 1).trans rfl
      have hldV := chgLoad_run hTV hCs
      have hstV := chgStore_row (CA := CX) hXV zSize hCs hone
      have hstZ := chgStore_row (CA := zChg) hXV zSize zSize zOne
      have hresV := setRow_heap V w.heap.size _ CX _ _ hXV
      have hresZ := setRow_heap V w.heap.size _ zChg _ _ hXV
      have HRS := Lib.hid (And.intro hresV hresZ)
      have HOC := Lib.hid hoc
      clear hXV hTV hmV hrV hCX hCs hone hCV hresV hresZ hoc
      by_cases hg : ((at_, sh) : St) = (n0, false)
      · obtain ⟨e1, e2⟩ := Prod.mk.inj hg
        subst e1 e2
        have HGD := Lib.hid (show ocg B = (false, qt, Ten.zero, 0) from HOC.out.trans (if_pos rfl))
        clear hg hstZ
        go_wp2
        refine bodyPost_ret (results_cell_tmp rfl _ _ w.heap.size 35 CX (0, 0) _ rfl HRS.out.1 Try.underlying35 rfl (by rw [chgSize, HEND.out.2.2.2.2.2.1])) rfl ?_
        obtain ⟨k1, k2, k3, k4, k5, k6, k7⟩ := HEND.out
        rw [HGD.out]
        refine ⟨x, by rw [k5]; rfl, (by rw [HK0.out]; rfl), ?_, k3.trans' (setRow_mod CX) (fun i hi f => by omega)⟩
        exact (k4.keeps ((setRow_mod (w := V) (g := w.heap.size) CX).keeps (fun b _ hb f => by omega))).imp (fun b hb => by omega)
      · have hz : OpenChgP (ocg B) w = OpenChgP ocNone w := by rw [HOC.out, if_neg hg]
        have HZ := Lib.hid hz
        have hor : sh = true ∨ sh = false ∧ ¬ (at_ : Int) = (n0 : Int) := by
          cases sh
          · exact .inr ⟨rfl, fun e => hg (by rw [Int.ofNat_inj.1 e])⟩
          · exact .inl rfl
        clear hz hg hstV
        rcases hor with rfl | ⟨rfl, hne⟩
        all_goals
          go_wp2
          refine bodyPost_ret (results_cell_tmp rfl _ _ w.heap.size 35 zChg (0, 0) _ rfl HRS.out.2 Try.underlying35 rfl (by rw [chgSize, zSize])) rfl ?_
          rw [HZ.out]
          exact openChg_none rfl (HEND.out.2.2.1.trans' (setRow_mod zChg) (fun i hi f => by omega))
end

section
attribute [local go_sem] stPair gtPair gtK8 gtM6 run_store_func
attribute [local go_sem high] neqPair eqK8 eqM6
attribute [local go_sem ↓] load_fold store_fold alloc_fold slice_op_fold con_load_fold chg_load_fold ten_zero_fold con_alloc_fold con_store_fold con_zero_fold chg_alloc_fold chg_store_fold chg_zero_fold chg_put_fold macLoad_fold macStore_fold keyLoad_fold keyStore_fold chg_make_fold chg_slice_fold
open Go.RowKit
set_option linter.unusedVariables false
set_option linter.unusedSimpArgs false
def Ten.small (t : Ten) : Prop := t.pool.length ≤ 300 ∧ t.statics.length ≤ 300 ∧ t.twices.length ≤ 300
theorem zero_small : Ten.zero.small := ⟨by decide, by decide, by decide⟩
theorem rten_small (B : List UInt8) (s : St) : (rten B s).1.small := by
  have k19 : rk B s 19 = (fun r : RS => ({ r with t := { r.t with twices := (rmany (rpr B) r.nt r.s).1 }, s := (rmany (rpr B) r.nt r.s).2 } : RS)) (rk B s 18) := rfl
  have k18 : rk B s 18 = (fun r : RS => ({ r with t := { r.t with statics := (rmany (rpr B) r.ns r.s).1 }, s := (rmany (rpr B) r.ns r.s).2 } : RS)) (rk B s 17) := rfl
  have k17 : rk B s 17 = (fun r : RS => ({ r with t := { r.t with pool := (rmany (rnum B 4) r.np r.s).1 }, s := (rmany (rnum B 4) r.np r.s).2 } : RS)) (rk B s 16) := rfl
  have k16 : rk B s 16 = (fun r : RS => ({ r with nt := (rnum B 1 r.s).1, s := (rnum B 1 r.s).2 } : RS)) (rk B s 15) := rfl
  have k15 : rk B s 15 = (fun r : RS => ({ r with ns := (rnum B 1 r.s).1, s := (rnum B 1 r.s).2 } : RS)) (rk B s 14) := rfl
  have k14 : rk B s 14 = (fun r : RS => ({ r with np := (rnum B 1 r.s).1, s := (rnum B 1 r.s).2 } : RS)) (rk B s 13) := rfl
  have hnp : (rk B s 16).np < 256 ∧ (rk B s 16).ns < 256 ∧ (rk B s 16).nt < 256 := by
    rw [k16]
    generalize h15 : rk B s 15 = r15 at *
    refine ⟨?_, ?_, rnum_lt B 1 _⟩
    · show r15.np < 256
      rw [k15]
      generalize h14 : rk B s 14 = r14 at *
      show r14.np < 256
      rw [k14]
      exact rnum_lt B 1 _
    · show r15.ns < 256
      rw [k15]
      exact rnum_lt B 1 _
  clear k16 k15 k14
  show (rk B s 19).t.small
  rw [k19]
  clear k19
  generalize h16 : rk B s 16 = r16 at *
  generalize h17 : rk B s 17 = r17 at *
  generalize h18 : rk B s 18 = r18 at *
  obtain ⟨a, b, c⟩ := hnp
  refine ⟨?_, ?_, ?_⟩
  · show r18.t.pool.length ≤ 300
    rw [k18]
    show r17.t.pool.length ≤ 300
    rw [k17]
    exact Nat.le_trans (rmany_len _ _ _) (by omega)
  · show r18.t.statics.length ≤ 300
    rw [k18]
    show (rmany (rpr B) r17.ns r17.s).1.length ≤ 300
    have : r17.ns < 256 := by rw [k17]; exact b
    exact Nat.le_trans (rmany_len _ _ _) (by omega)
  · show (rmany (rpr B) r18.nt r18.s).1.length ≤ 300
    have : r18.nt < 256 := by rw [k18]; show r17.nt < 256; rw [k17]; exact c
    exact Nat.le_trans (rmany_len _ _ _) (by omega)
theorem ocg_small (B : List UInt8) : (ocg B).2.2.1.small := by
  rw [ocg_eq]
  split
  · exact zero_small
  · split
    · split
      · exact rten_small B _
      · exact zero_small
    · split
      · exact zero_small
      · exact zero_small
end

section
attribute [local go_sem] stPair gtPair gtK8 gtM6 run_store_func
attribute [local go_sem high] neqPair eqK8 eqM6
attribute [local go_sem ↓] load_fold store_fold alloc_fold slice_op_fold con_load_fold chg_load_fold ten_zero_fold con_alloc_fold con_store_fold con_zero_fold chg_alloc_fold chg_store_fold chg_zero_fold chg_put_fold macLoad_fold macStore_fold keyLoad_fold keyStore_fold chg_make_fold chg_slice_fold
open Go.RowKit
set_option linter.unusedVariables false
set_option linter.unusedSimpArgs false
def ConQ (cc : Con) (lt : List Ten) (ce : Nat) (W : World) (e : Ending) (w' : World) : Prop :=
  ∃ (CA : Array Value) (Q : Option Addr) (p : Nat) (l : List TV), e = .returned (.tuple #[.agg CA, .int .i64 (ce : Int)]) ∧ CA = cc.cells (.slice Q lt.length p) ∧ l.map (·.t) = lt ∧ TVl (fun b => W.heap.size ≤ b) w' Q l ∧ Mod No W w' ∧ CA.size = 29 ∧ CA.all (·.oneCell') = true
def ChgQ (put : Bool) (name : List UInt8) (t : Ten) (ce : Nat) (W : World) (e : Ending) (w' : World) : Prop :=
  ∃ (CA : Array Value) (x : TV), e = .returned (.tuple #[.agg CA, .int .i64 (ce : Int)]) ∧ CA = cChg put name x ∧ x.t = t ∧ x.Rows (fun b => W.heap.size ≤ b) w' ∧ Mod No W w' ∧ CA.size = 35 ∧ CA.all (·.oneCell') = true
theorem con_q {f : Nat} {args : Array Value} {W : World} {B : List UInt8} {cc : Con} {lt : List Ten} {ce : Nat} (h : Calls Try.prog f args W (OpenConP (ocf B) W)) (hq : ocf B = (cc, lt, ce)) : Calls Try.prog f args W (ConQ cc lt ce W) := by
  rw [hq] at h
  refine h.mono ?_
  rintro e w' ⟨vt, l, e1, e2, e3, e4⟩
  obtain ⟨Q, p, hv, hr⟩ := own_rowAt e3.own
  have hl : l.length = lt.length := by have := congrArg List.length e2; simpa using this
  rw [hl] at hv
  subst hv
  exact ⟨_, Q, p, l, e1, rfl, e2, ⟨hr, fun x hx => (e3.rows x hx).imp (fun b hb => hb.1)⟩, e4, rfl, con_one _ _ _ _⟩
theorem chg_q {f : Nat} {args : Array Value} {W : World} {B : List UInt8} {put : Bool} {name : List UInt8} {t : Ten} {ce : Nat} (h : Calls Try.prog f args W (OpenChgP (ocg B) W)) (hq : ocg B = (put, name, t, ce)) : Calls Try.prog f args W (ChgQ put name t ce W) := by
  rw [hq] at h
  refine h.mono ?_
  rintro e w' ⟨x, e1, e2, e3, e4⟩
  exact ⟨_, x, e1, rfl, e2, e3, e4, cChg_size _ _ _, cChg_one _ _ e3⟩
end

end Go.Proofs.Ytpkieilmlnlpkaa
