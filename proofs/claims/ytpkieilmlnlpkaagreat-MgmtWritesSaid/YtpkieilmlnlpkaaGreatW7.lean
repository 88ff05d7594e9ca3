/-
  RrA, RrB, RrC, RrD, RrF, RrG, LawC, LawP in one text (pack.py).
-/
import Derived.Test.YtpkieilmlnlpkaaGreatW6
namespace Go.Proofs.YtpkieilmlnlpkaaGreat

section
attribute [local go_sem] stPair gtPair gtK8 gtM6 run_store_func
attribute [local go_sem high] neqPair eqK8 eqM6
attribute [local go_sem ↓] load_fold store_fold alloc_fold slice_op_fold con_load_fold chg_load_fold ten_zero_fold con_alloc_fold con_store_fold con_zero_fold chg_alloc_fold chg_store_fold chg_zero_fold chg_put_fold
open Go.RowKit
set_option linter.unusedVariables false
set_option linter.unusedSimpArgs false
/-- The reference's reader. -/
def rrObj (A : Option Addr) (n c at_ : Nat) (sh : Bool) : Obj := .cells #[.slice A n c, .int .i64 at_, .bool sh] 92 (0, 0)
theorem rr_set1 (A : Option Addr) (n c at_ : Nat) (sh : Bool) {w : World} {C : Nat} (h : w.heap[C]? = some (rrObj A n c at_ sh)) (k : Nat) (x : Int) (hx : x = (k : Int)) : (w.setCell ⟨C, 1, none⟩ (.int .i64 x)).heap[C]? = some (rrObj A n c k sh) := by
  subst hx; rw [rrObj] at h; rw [heap_setCell_row h]; simp [rrObj]
theorem rr_set2 (A : Option Addr) (n c at_ : Nat) (sh : Bool) {w : World} {C : Nat} (h : w.heap[C]? = some (rrObj A n c at_ sh)) (b : Bool) : (w.setCell ⟨C, 2, none⟩ (.bool b)).heap[C]? = some (rrObj A n c at_ b) := by
  rw [rrObj] at h; rw [heap_setCell_row h]; simp [rrObj]
set_option maxRecDepth 100000 in
theorem rr_take {S : Nat → Prop} {w : World} {C : Nat} {A : Option Addr} {c at_ : Nat} {sh : Bool} (B : List UInt8) (hb : w.heap[C]? = some (rrObj A B.length c at_ sh)) (hrow : RowAt S w A (bcells B)) (hat : at_ ≤ B.length) (hc : B.length ≤ c) (hB : B.length ≤ 100000000) (k : Nat) (hk : k ≤ 100000000) (hS : ¬ S C) :
    Calls Tryz.prog 58 #[.pointer (some ⟨C, 0, none⟩), .int .i64 k] w fun e w' => ∃ A' c', e = .returned (.slice A' k c') ∧ k ≤ c' ∧ RowAt (fun b => S b ∨ w.heap.size ≤ b) w' A' (bcells (rtake B (at_, sh) k).1) ∧
      w'.heap[C]? = some (rrObj A B.length c (rtake B (at_, sh) k).2.1 (rtake B (at_, sh) k).2.2) ∧ Mod (fun b => b = C) w w' := by
  obtain ⟨n, hn⟩ : ∃ n, n = B.length := ⟨_, rfl⟩
  rw [← hn] at hb hat hc hB
  rw [← hn]
  have hlt := lt_of_block hb
  have c0 := blk_cell hb 0
  have c1 := blk_cell hb 1
  have c2 := blk_cell hb 2
  have f1 := blk_free hb 1
  have f2 := blk_free hb 2
  simp at c0 c1 c2
  have HB := Lib.hid hb
  have HR := Lib.hid hrow
  have HN := Lib.hid hn
  have HAT := Lib.hid hat
  have hmk := make_bytes k hk
  have HS := Lib.hid hS
  have HSH := Lib.hid (rtake_short (B := B) (s := (at_, sh)) (k := k))
  have HFU := Lib.hid (rtake_full (B := B) (s := (at_, sh)) (k := k))
  clear hb hrow hn hS
  by_cases hsh : sh = true
  · have HE := Lib.hid (HSH.out (.inl hsh))
    subst hsh
    go_enter Tryz.func58, Tryz.ntmps58
    go_wp2
    go_quiet (fail)
    go_wp2
    go_ret
    rw [HE.out]
    refine ⟨_, _, rfl, Nat.le_refl _, ?_, ?_, ?_⟩
    · have := row_new S ((w.drewN nq).setCell ⟨C, 2, none⟩ (.bool true)) (List.replicate k 0)
      simpa using this
    · exact (Below.heap_alloc _ _ _ (by simpa using hlt)).trans (rr_set2 A n c at_ true (w := w.drewN nq) HB.out true)
    · repeat (first | with_reducible exact Mod.refl _ _ | refine Mod.alloc ?_ _ | refine Mod.drewN ?_ _ | refine Mod.setCell ?_ (.inr (by rfl)) _)
  · have hshf : sh = false := by simpa using hsh
    subst hshf
    by_cases hlen : n - at_ < k
    · have HE := Lib.hid (HSH.out (.inr (by rw [← HN.out]; exact hlen)))
      have p1 : (n : Int) - at_ < k := by omega
      have p2 : decide ((n : Int) - at_ < k) = true := by simpa using p1
      clear hlen hsh
      go_enter Tryz.func58, Tryz.ntmps58
      go_wp2
      go_quiet (fail)
      go_wp2
      go_ret
      rw [HE.out]
      refine ⟨_, _, rfl, Nat.le_refl _, ?_, ?_, ?_⟩
      · have := row_new S ((w.drewN nq).setCell ⟨C, 2, none⟩ (.bool true)) (List.replicate k 0)
        simpa using this
      · exact (Below.heap_alloc _ _ _ (by simpa using hlt)).trans (rr_set2 A n c at_ false (w := w.drewN nq) HB.out true)
      · repeat (first | with_reducible exact Mod.refl _ _ | refine Mod.alloc ?_ _ | refine Mod.drewN ?_ _ | refine Mod.setCell ?_ (.inr (by rfl)) _)
    · have HE := Lib.hid (HFU.out (by rw [← HN.out]; simp; omega))
      have p1 : ¬ ((n : Int) - at_ < k) := by omega
      have p2 : decide ((n : Int) - at_ < k) = false := by simpa using p1
      have p3 : (at_ : Int) + k ≤ n := by omega
      have p4 : (at_ : Int) + k - k = at_ := by omega
      obtain ⟨A', hsl, hA'⟩ := own_row_bytes n c at_ k A (by omega) hc
      have HA := Lib.hid hA'
      clear hlen hsh hA'
      go_enter Tryz.func58, Tryz.ntmps58
      go_wp2
      go_quiet (fail)
      go_wp2
      obtain ⟨q1, hq1⟩ : ∃ q1, q1 = nq := ⟨_, rfl⟩
      rw [← hq1]
      clear hq1
      clear nq
      go_quiet (fail)
      go_wp2
      go_ret
      rw [HE.out]
      have hm : Mod (fun b => b = C) w (((w.drewN q1).setCell ⟨C, 1, none⟩ (.int .i64 ((at_ : Int) + k))).drewN nq) := by
        repeat (first | with_reducible exact Mod.refl _ _ | refine Mod.alloc ?_ _ | refine Mod.drewN ?_ _ | refine Mod.setCell ?_ (.inr (by rfl)) _)
      refine ⟨A', _, rfl, by have := HAT.out; omega, ?_, ?_, hm⟩
      · have h1 := HA.out S _ _ (HR.out.keeps (hm.keeps (fun b _ hb e => HS.out (by subst e; exact hb))))
        have e : bcells ((B.drop at_).take k) = ((bcells B).drop at_).take k := by simp [bcells]
        rw [e]
        exact h1.mono (fun _ _ h => .inl h)
      · exact rr_set1 A n c at_ false (w := w.drewN q1) HB.out (at_ + k) _ (by omega)
/-! ### a number -/
set_option maxRecDepth 100000 in
theorem rr_n {S : Nat → Prop} {w : World} {C : Nat} {A : Option Addr} {c : Nat} {s : St} (B : List UInt8) (hb : w.heap[C]? = some (rrObj A B.length c s.1 s.2)) (hrow : RowAt S w A (bcells B)) (hat : s.1 ≤ B.length) (hc : B.length ≤ c) (hB : B.length ≤ 100000000) (size : Nat) (hk : size ≤ 7) (hS : ¬ S C) :
    Calls Tryz.prog 44 #[.pointer (some ⟨C, 0, none⟩), .int .i64 size] w fun e w' => e = .returned (.int .u64 ((rnum B size s).1 : Nat)) ∧ w'.heap[C]? = some (rrObj A B.length c (rnum B size s).2.1 (rnum B size s).2.2) ∧ Mod (fun b => b = C) w w' := by
  obtain ⟨at_, sh⟩ := s
  have HT := Lib.hid (rr_take B hb hrow hat hc hB size (by omega) hS)
  have hxl := rtake_length B (at_, sh) size
  rw [show rnum B size (at_, sh) = (beval (rtake B (at_, sh) size).1, (rtake B (at_, sh) size).2) from rfl]
  obtain ⟨xs, hxs⟩ : ∃ xs, xs = (rtake B (at_, sh) size).1 := ⟨_, rfl⟩
  obtain ⟨st, hst⟩ : ∃ st, st = (rtake B (at_, sh) size).2 := ⟨_, rfl⟩
  rw [← hxs] at hxl
  rw [← hxs, ← hst] at HT
  rw [← hxs, ← hst]
  have HXL := Lib.hid hxl
  clear hxl hb hrow hS hxs hst
  go_enter Tryz.func44, Tryz.ntmps44
  go_wp2_with (first | (go_at_call 58; refine HT.out.mono ?_; rintro e w1 ⟨A', c', rfl, hcc, hr1, hb1, hm1⟩; have HR1 := Lib.hid (And.intro hr1 (And.intro hb1 hm1)); clear hr1 hb1 hm1) | fail)
  go_loopw [5, 7] (fun v i wr => ∃ (k m : Nat), i = .int .i64 k ∧ v = .int .u64 m ∧ k ≤ size ∧ m = beval (xs.take k) ∧ wr = w1) (fun _ i _ => size - (intOf i).toNat)
  case atStart => exact ⟨0, 0, rfl, rfl, by omega, by simp [beval], rfl⟩
  case round =>
    obtain ⟨k, m, rfl, rfl, hk1, hm, rfl⟩ := hrel
    have HM := Lib.hid hm
    clear hm
    by_cases hlt : k < size
    · obtain ⟨x, hx⟩ : ∃ x, xs[k]? = some x := ⟨_, List.getElem?_eq_getElem (by have := HXL.out; omega)⟩
      have hxc : (bcells xs)[k]? = some (.int .u8 (x.toNat : Int)) := by simp [bcells, hx]
      obtain ⟨b, o, rfl, _, _, hcell⟩ := HR1.out.1.open (by intro e; rw [e] at hxc; simp at hxc)
      have hc0 := hcell k _ hxc
      have hml : m < 256 ^ k := by
        have := beval_lt (xs.take k)
        rw [← HM.out, List.length_take, Nat.min_eq_left (by have := HXL.out; omega)] at this
        exact this
      have hm6 : m < 2 ^ 48 := Nat.lt_of_lt_of_le hml (by rw [show (2:Nat) ^ 48 = 256 ^ 6 from rfl]; exact Nat.pow_le_pow_right (by omega) (by omega))
      have hx8 := x.toNat_lt
      have e1 : IntKind.u64.wrap ((m : Int) * 256) = (m : Int) * 256 := by simp [IntKind.wrap, IntKind.bits, IntKind.signed]; omega
      have e2 : IntKind.u64.wrap (x.toNat : Int) = (x.toNat : Int) := by simp [IntKind.wrap, IntKind.bits, IntKind.signed]; omega
      have e3 := or_low m x.toNat (by omega) hx8
      have HX := Lib.hid hx
      have p1 : (0:Int) ≤ k := by omega
      have p2 : (k:Int) < size := by omega
      clear hx hxc hcell hml hm6 hx8
      go_wp2
      refine ⟨⟨k + 1, m * 256 + x.toNat, by go_num, by simp, by omega, ?_, by simp⟩, by simp [intOf]; omega⟩
      obtain ⟨hlx, ex⟩ := List.getElem?_eq_some_iff.1 HX.out
      rw [List.take_succ_eq_append_getElem hlx, ex, beval_snoc, ← HM.out]
    · have hk' : k = size := by omega
      subst hk'
      have hmx : m = beval xs := by rw [HM.out, List.take_of_length_le (by rw [HXL.out]; exact Nat.le_refl _)]
      have HMX := Lib.hid hmx
      clear hmx
      go_wp2
      go_ret
      exact ⟨by rw [HMX.out]; rfl, HR1.out.2.1, HR1.out.2.2⟩
/-! ### a name -/
set_option maxRecDepth 100000 in
theorem rr_name {S : Nat → Prop} {w : World} {C : Nat} {A : Option Addr} {c : Nat} {s : St} (B : List UInt8) (hb : w.heap[C]? = some (rrObj A B.length c s.1 s.2)) (hrow : RowAt S w A (bcells B)) (hat : s.1 ≤ B.length) (hc : B.length ≤ c) (hB : B.length ≤ 100000000) (hS : ¬ S C) :
    Calls Tryz.prog 46 #[.pointer (some ⟨C, 0, none⟩)] w fun e w' => e = .returned (.string (str (rname B s).1)) ∧ w'.heap[C]? = some (rrObj A B.length c (rname B s).2.1 (rname B s).2.2) ∧ Mod (fun b => b = C) w w' := by
  have hkp : ∀ W, Mod (fun b => b = C) w W → RowAt S W A (bcells B) := fun W hW => hrow.keeps (hW.keeps (fun b _ hs e => hS (by subst e; exact hs)))
  have HN := Lib.hid (rr_n B hb hrow hat hc hB 1 (by omega) hS)
  obtain ⟨n, hn⟩ : ∃ n, n = (rnum B 1 s).1 := ⟨_, rfl⟩
  obtain ⟨s1, hs1⟩ : ∃ s1, s1 = (rnum B 1 s).2 := ⟨_, rfl⟩
  have hn8 : n < 256 := by rw [hn]; exact rnum_lt B 1 s
  have hs18 : s1.1 ≤ B.length := by rw [hs1]; exact rnum_le B 1 s hat
  have hne : rname B s = rtake B s1 n := by rw [hs1, hn]; rfl
  rw [← hn, ← hs1] at HN
  rw [hne]
  have hT : ∀ w1, w1.heap[C]? = some (rrObj A B.length c s1.1 s1.2) → Mod (fun b => b = C) w w1 → Calls Tryz.prog 58 #[.pointer (some ⟨C, 0, none⟩), .int .i64 n] w1 fun e w' => ∃ A' c', e = .returned (.slice A' n c') ∧ n ≤ c' ∧ RowAt (fun b => S b ∨ w1.heap.size ≤ b) w' A' (bcells (rtake B s1 n).1) ∧
      w'.heap[C]? = some (rrObj A B.length c (rtake B s1 n).2.1 (rtake B s1 n).2.2) ∧ Mod (fun b => b = C) w1 w' := fun w1 h1 h2 => rr_take B h1 (hkp _ h2) hs18 hc hB n (by omega) hS
  have hxl := rtake_length B s1 n
  have HTK := Lib.hid (And.intro hT hxl)
  have e1 : IntKind.i64.wrap (n : Int) = n := by simp [IntKind.wrap, IntKind.bits, IntKind.signed]; omega
  clear hT hxl hb hrow hat hc hB hS hkp hn hs1 hn8 hs18 hne
  go_enter Tryz.func46, Tryz.ntmps46
  go_wp2_with (first | (go_at_call 44; refine HN.out.mono ?_; rintro e w1 ⟨rfl, hb1, hm1⟩; have HB1 := Lib.hid (And.intro hb1 hm1); clear hb1 hm1) | (go_at_call 58; refine (HTK.out.1 _ HB1.out.1 HB1.out.2).mono ?_; rintro e w2 ⟨A', c', rfl, hcc, hr2, hb2, hm2⟩; have hcv := conv_row c' hr2; rw [HTK.out.2] at hcv; have HB2 := Lib.hid (And.intro hb2 hm2); clear hr2 hb2 hm2) | fail)
  go_ret
  exact ⟨rfl, HB2.out.1, HB1.out.2.trans HB2.out.2⟩
/-! ### six bytes, eight bytes -/
theorem m6_cells (xs : List UInt8) (h : xs.length = 6) : splice [.int .u8 0, .int .u8 0, .int .u8 0, .int .u8 0, .int .u8 0, .int .u8 0] 0 (bcells xs) = bcells (M6.of xs).l := by
  match xs, h with
  | [a, b, c, d, e, f], _ => rfl
theorem k8_cells (xs : List UInt8) (h : xs.length = 8) : splice [.int .u8 0, .int .u8 0, .int .u8 0, .int .u8 0, .int .u8 0, .int .u8 0, .int .u8 0, .int .u8 0] 0 (bcells xs) = bcells (K8.of xs).l := by
  match xs, h with
  | [a, b, c, d, e, f, g, i], _ => rfl
/-! ### an array, loaded and stored whole -/
theorem macSize : (Tryz.prog.info? 26).map (·.size) = some 6 := by kernel_rfl
theorem keySize : (Tryz.prog.info? 22).map (·.size) = some 8 := by kernel_rfl
theorem arrStore_in {T : TypeId} {k : Nat} (hT : (Tryz.prog.info? T).map (·.size) = some k) {W : World} {b o : Nat} {cur CA : Array Value} {t : TypeId} (h : W.heap[b]? = some (.cells cur t (0, 0))) (ho : o + k ≤ cur.size) (hc : CA.size = k) (h1 : CA.all (·.oneCell') = true) :
    (Instr.storeAt T (.pointer (some ⟨b, o, none⟩)) (.agg CA)).run Tryz.prog W = .ok () (W.setRow b (splice cur.toList o CA.toList).toArray) := by
  have hl : CA.toList.length = k := by simpa using hc
  have := run_storeCells_at (P := Tryz.prog) b o t CA.toList 0 cur W h (by rw [hl]; omega) (fun v hv => (Array.all_eq_true_iff_forall_mem.1 h1) v (by simpa using hv))
  simp only [Nat.add_zero, hl] at this
  simp only [Instr.storeAt, Instr.sureAddr, Sem.run_bind, Sem.run_pure, Result.andThen_ok, splice, hl]
  cases hq : Tryz.prog.info? T with
  | none => simp [hq] at hT
  | some i =>
    have hs : i.size = k := by simpa [hq] using hT
    simp [storeVar, sizeOf, typeInfo, hq, Value.cells, hs, hc, this]
def macLoad (v : Value) : Sem Value := Instr.loadAt 26 v
theorem macLoad_fold (v : Value) : Instr.loadAt 26 v = macLoad v := rfl
attribute [local go_sem ↓] macLoad_fold
def macStore (p v : Value) : Sem Unit := Instr.storeAt 26 p v
theorem macStore_fold (p v : Value) : Instr.storeAt 26 p v = macStore p v := rfl
attribute [local go_sem ↓] macStore_fold
def keyLoad (v : Value) : Sem Value := Instr.loadAt 22 v
theorem keyLoad_fold (v : Value) : Instr.loadAt 22 v = keyLoad v := rfl
attribute [local go_sem ↓] keyLoad_fold
def keyStore (p v : Value) : Sem Unit := Instr.storeAt 22 p v
theorem keyStore_fold (p v : Value) : Instr.storeAt 22 p v = keyStore p v := rfl
attribute [local go_sem ↓] keyStore_fold
theorem macLoad_run {W : World} {b : Nat} {CA : Array Value} {t : TypeId} (h : W.heap[b]? = some (.cells CA t (0, 0))) (hc : CA.size = 6) : (macLoad (.pointer (some ⟨b, 0, none⟩))).run Tryz.prog W = .ok (.agg CA) W := by
  simp only [macLoad, Instr.loadAt, Instr.sureAddr, Sem.run_bind, Sem.run_pure, Result.andThen_ok]
  exact run_loadVar_row W b _ _ CA (0, 0) _ h Tryz.underlying26 rfl (by rw [macSize, hc])
theorem keyLoad_run {W : World} {b : Nat} {CA : Array Value} {t : TypeId} (h : W.heap[b]? = some (.cells CA t (0, 0))) (hc : CA.size = 8) : (keyLoad (.pointer (some ⟨b, 0, none⟩))).run Tryz.prog W = .ok (.agg CA) W := by
  simp only [keyLoad, Instr.loadAt, Instr.sureAddr, Sem.run_bind, Sem.run_pure, Result.andThen_ok]
  exact run_loadVar_row W b _ _ CA (0, 0) _ h Tryz.underlying22 rfl (by rw [keySize, hc])
theorem bcells_all (l : List UInt8) : (bcells l).toArray.all (·.oneCell') = true := by
  rw [Array.all_eq_true_iff_forall_mem]
  intro v hv
  exact bcells_one l v (by simpa using hv)
theorem macStore_run {W : World} {b o : Nat} {cur : Array Value} {t : TypeId} (m : M6) (h : W.heap[b]? = some (.cells cur t (0, 0))) (ho : o + 6 ≤ cur.size) : (macStore (.pointer (some ⟨b, o, none⟩)) (.agg (bcells m.l).toArray)).run Tryz.prog W = .ok () (W.setRow b (splice cur.toList o (bcells m.l)).toArray) :=
  arrStore_in macSize h ho rfl (bcells_all _)
theorem keyStore_run {W : World} {b o : Nat} {cur : Array Value} {t : TypeId} (m : K8) (h : W.heap[b]? = some (.cells cur t (0, 0))) (ho : o + 8 ≤ cur.size) : (keyStore (.pointer (some ⟨b, o, none⟩)) (.agg (bcells m.l).toArray)).run Tryz.prog W = .ok () (W.setRow b (splice cur.toList o (bcells m.l)).toArray) :=
  arrStore_in keySize h ho rfl (bcells_all _)
set_option maxRecDepth 100000 in
theorem rr_mac {S : Nat → Prop} {w : World} {C : Nat} {A : Option Addr} {c : Nat} {s : St} (B : List UInt8) (hb : w.heap[C]? = some (rrObj A B.length c s.1 s.2)) (hrow : RowAt S w A (bcells B)) (hat : s.1 ≤ B.length) (hc : B.length ≤ c) (hB : B.length ≤ 100000000) (hS : ¬ S C) :
    Calls Tryz.prog 47 #[.pointer (some ⟨C, 0, none⟩)] w fun e w' => e = .returned (.agg (bcells (M6.of (rtake B s 6).1).l).toArray) ∧ w'.heap[C]? = some (rrObj A B.length c (rtake B s 6).2.1 (rtake B s 6).2.2) ∧ Mod (fun b => b = C) w w' := by
  have hlt := lt_of_block hb
  have hxl := rtake_length B s 6
  obtain ⟨xs, hxs⟩ : ∃ xs, xs = (rtake B s 6).1 := ⟨_, rfl⟩
  obtain ⟨st, hst⟩ : ∃ st, st = (rtake B s 6).2 := ⟨_, rfl⟩
  rw [← hxs] at hxl
  have hTK : ∀ W : World, Mod No w W → W.heap[w.heap.size]? = some (.cells #[.int .u8 0, .int .u8 0, .int .u8 0, .int .u8 0, .int .u8 0, .int .u8 0] 26 (0, 0)) → W.heap[w.heap.size + 1]? = some (.cells #[.int .u8 0, .int .u8 0, .int .u8 0, .int .u8 0, .int .u8 0, .int .u8 0] 26 (0, 0)) → Calls Tryz.prog 58 #[.pointer (some ⟨C, 0, none⟩), .int .i64 6] W fun e w' => ∃ b o c', e = .returned (.slice (some ⟨b, o, none⟩) 6 c') ∧
      (∀ j v, (bcells xs)[j]? = some v → w'.cell? ((⟨b, o, none⟩ : Addr).add j) = some v) ∧ w'.heap[C]? = some (rrObj A B.length c st.1 st.2) ∧ w'.heap[w.heap.size]? = some (.cells #[.int .u8 0, .int .u8 0, .int .u8 0, .int .u8 0, .int .u8 0, .int .u8 0] 26 (0, 0)) ∧ w'.heap[w.heap.size + 1]? = some (.cells #[.int .u8 0, .int .u8 0, .int .u8 0, .int .u8 0, .int .u8 0, .int .u8 0] 26 (0, 0)) ∧ Mod (fun b => b = C) w w' := by
    intro W hW h0 h1
    refine (rr_take B (hW.obj hb id) ((hrow.mono (S' := fun b => S b ∧ b < w.heap.size) (fun b hb hs => ⟨hs, hb⟩)).keeps (hW.keeps (fun _ _ _ f => f))) hat hc hB 6 (by omega) (fun f => hS f.1)).mono ?_
    rintro e w' ⟨A', c', rfl, hcc, hr, hb', hm⟩
    rw [← hxs] at hr
    rw [← hst] at hb'
    obtain ⟨b, o, e, _, _, hcl⟩ := hr.open (by intro e; have := congrArg List.length e; rw [bcells_length, hxl] at this; simp at this)
    exact ⟨b, o, c', by rw [e], fun j v hj => by rw [Addr.add_lit]; exact hcl j v hj, hb', hm.obj h0 (by omega), hm.obj h1 (by omega), (hW.mono (fun _ f => f.elim)).trans hm⟩
  obtain ⟨R, hR⟩ : ∃ R, R = (bcells (M6.of xs).l).toArray := ⟨_, rfl⟩
  have hRX : ((#[.int .u8 0, .int .u8 0, .int .u8 0, .int .u8 0, .int .u8 0, .int .u8 0] : Array Value).toList.take 0 ++ bcells xs ++ (#[.int .u8 0, .int .u8 0, .int .u8 0, .int .u8 0, .int .u8 0, .int .u8 0] : Array Value).toList.drop (0 + (bcells xs).length)).toArray = R := by rw [hR]; exact congrArg List.toArray (m6_cells xs hxl)
  rw [← hxs, ← hst]
  have hsz8 : (Tryz.prog.info? 5).map (·.size) = some 1 := by kernel_rfl
  have HTK := Lib.hid hTK
  have HH := Lib.hid (And.intro hxl hlt)
  have HRX := Lib.hid hRX
  have HRR := Lib.hid hR
  clear hRX hR hTK hxl hb hrow hS hxs hst hat hc hB hlt
  go_enter Tryz.func47, Tryz.ntmps47
  go_wp2
  go_region_with (first | (go_at_call 58; refine (HTK.out _ ?_ ?_ ?_).mono ?_; (repeat (first | with_reducible exact Mod.refl _ _ | refine Mod.alloc ?_ _ | refine Mod.drew ?_)); exact at20 w _ _; exact at21 w _ _; rintro e w1 ⟨b1, o1, c1, rfl, hc1, k1, k2, k3, k4⟩; have hcp := run_copy_row (P := Tryz.prog) w1 40 40 3 5 (w.heap.size + 1) 0 6 6 ⟨b1, o1, none⟩ 6 c1 #[.int .u8 0, .int .u8 0, .int .u8 0, .int .u8 0, .int .u8 0, .int .u8 0] 26 (bcells xs) Tryz.underlying40 hsz8 k3 (by rw [bcells_length, HH.out.1]; rfl) hc1 (by rw [bcells_length, HH.out.1]; decide) (bcells_one xs); rw [HRX.out] at hcp; have HR1 := Lib.hid (And.intro k1 (And.intro k2 (And.intro k3 k4))); clear k1 k2 k3 k4 hc1) | fail)
  all_goals
    have hTR : (w1.setRow (w.heap.size + 1) R).heap[w.heap.size + 1]? = some (.cells R 26 (0, 0)) := setRow_heap _ _ _ _ _ _ HR1.out.2.2.1
    have hRR : (w1.setRow (w.heap.size + 1) R).heap[w.heap.size]? = some (.cells #[.int .u8 0, .int .u8 0, .int .u8 0, .int .u8 0, .int .u8 0, .int .u8 0] 26 (0, 0)) := (setRow_mod (w := w1) (g := w.heap.size + 1) R).obj HR1.out.2.1 (by omega)
    have hld := macLoad_run hTR (by rw [HRR.out]; rfl)
    have hst : (macStore (.pointer (some ⟨w.heap.size, 0, none⟩)) (.agg R)).run Tryz.prog (w1.setRow (w.heap.size + 1) R) = .ok () ((w1.setRow (w.heap.size + 1) R).setRow w.heap.size R) := by
      rw [HRR.out]
      rw [HRR.out] at hRR
      exact macStore_run (M6.of xs) hRR (by decide)
    have H2 := Lib.hid (And.intro hTR hRR)
    clear hTR hRR
    go_wp2
    refine bodyPost_ret (results_cell_row rfl _ _ w.heap.size 26 R (0, 0) _ rfl (setRow_heap _ _ _ _ _ _ H2.out.2) Tryz.underlying26 rfl (by rw [macSize, HRR.out]; rfl)) rfl ?_
    refine ⟨by rw [HRR.out], ?_, ?_⟩
    · have := HH.out.2
      exact (setRow_mod R).obj ((setRow_mod R).obj HR1.out.1 (by omega)) (by omega)
    · exact (HR1.out.2.2.2.trans' (setRow_mod R) (fun i hi f => by omega)).trans' (setRow_mod R) (fun i hi f => by omega)
set_option maxRecDepth 100000 in
theorem rr_key {S : Nat → Prop} {w : World} {C : Nat} {A : Option Addr} {c : Nat} {s : St} (B : List UInt8) (hb : w.heap[C]? = some (rrObj A B.length c s.1 s.2)) (hrow : RowAt S w A (bcells B)) (hat : s.1 ≤ B.length) (hc : B.length ≤ c) (hB : B.length ≤ 100000000) (hS : ¬ S C) :
    Calls Tryz.prog 48 #[.pointer (some ⟨C, 0, none⟩)] w fun e w' => e = .returned (.agg (bcells (K8.of (rtake B s 8).1).l).toArray) ∧ w'.heap[C]? = some (rrObj A B.length c (rtake B s 8).2.1 (rtake B s 8).2.2) ∧ Mod (fun b => b = C) w w' := by
  have hlt := lt_of_block hb
  have hxl := rtake_length B s 8
  obtain ⟨xs, hxs⟩ : ∃ xs, xs = (rtake B s 8).1 := ⟨_, rfl⟩
  obtain ⟨st, hst⟩ : ∃ st, st = (rtake B s 8).2 := ⟨_, rfl⟩
  rw [← hxs] at hxl
  have hTK : ∀ W : World, Mod No w W → W.heap[w.heap.size]? = some (.cells #[.int .u8 0, .int .u8 0, .int .u8 0, .int .u8 0, .int .u8 0, .int .u8 0, .int .u8 0, .int .u8 0] 22 (0, 0)) → W.heap[w.heap.size + 1]? = some (.cells #[.int .u8 0, .int .u8 0, .int .u8 0, .int .u8 0, .int .u8 0, .int .u8 0, .int .u8 0, .int .u8 0] 22 (0, 0)) → Calls Tryz.prog 58 #[.pointer (some ⟨C, 0, none⟩), .int .i64 8] W fun e w' => ∃ b o c', e = .returned (.slice (some ⟨b, o, none⟩) 8 c') ∧
      (∀ j v, (bcells xs)[j]? = some v → w'.cell? ((⟨b, o, none⟩ : Addr).add j) = some v) ∧ w'.heap[C]? = some (rrObj A B.length c st.1 st.2) ∧ w'.heap[w.heap.size]? = some (.cells #[.int .u8 0, .int .u8 0, .int .u8 0, .int .u8 0, .int .u8 0, .int .u8 0, .int .u8 0, .int .u8 0] 22 (0, 0)) ∧ w'.heap[w.heap.size + 1]? = some (.cells #[.int .u8 0, .int .u8 0, .int .u8 0, .int .u8 0, .int .u8 0, .int .u8 0, .int .u8 0, .int .u8 0] 22 (0, 0)) ∧ Mod (fun b => b = C) w w' := by
    intro W hW h0 h1
    refine (rr_take B (hW.obj hb id) ((hrow.mono (S' := fun b => S b ∧ b < w.heap.size) (fun b hb hs => ⟨hs, hb⟩)).keeps (hW.keeps (fun _ _ _ f => f))) hat hc hB 8 (by omega) (fun f => hS f.1)).mono ?_
    rintro e w' ⟨A', c', rfl, hcc, hr, hb', hm⟩
    rw [← hxs] at hr
    rw [← hst] at hb'
    obtain ⟨b, o, e, _, _, hcl⟩ := hr.open (by intro e; have := congrArg List.length e; rw [bcells_length, hxl] at this; simp at this)
    exact ⟨b, o, c', by rw [e], fun j v hj => by rw [Addr.add_lit]; exact hcl j v hj, hb', hm.obj h0 (by omega), hm.obj h1 (by omega), (hW.mono (fun _ f => f.elim)).trans hm⟩
  obtain ⟨R, hR⟩ : ∃ R, R = (bcells (K8.of xs).l).toArray := ⟨_, rfl⟩
  have hRX : ((#[.int .u8 0, .int .u8 0, .int .u8 0, .int .u8 0, .int .u8 0, .int .u8 0, .int .u8 0, .int .u8 0] : Array Value).toList.take 0 ++ bcells xs ++ (#[.int .u8 0, .int .u8 0, .int .u8 0, .int .u8 0, .int .u8 0, .int .u8 0, .int .u8 0, .int .u8 0] : Array Value).toList.drop (0 + (bcells xs).length)).toArray = R := by rw [hR]; exact congrArg List.toArray (k8_cells xs hxl)
  rw [← hxs, ← hst]
  have hsz8 : (Tryz.prog.info? 5).map (·.size) = some 1 := by kernel_rfl
  have HTK := Lib.hid hTK
  have HH := Lib.hid (And.intro hxl hlt)
  have HRX := Lib.hid hRX
  have HRR := Lib.hid hR
  clear hRX hR hTK hxl hb hrow hS hxs hst hat hc hB hlt
  go_enter Tryz.func48, Tryz.ntmps48
  go_wp2
  go_region_with (first | (go_at_call 58; refine (HTK.out _ ?_ ?_ ?_).mono ?_; (repeat (first | with_reducible exact Mod.refl _ _ | refine Mod.alloc ?_ _ | refine Mod.drew ?_)); exact at20 w _ _; exact at21 w _ _; rintro e w1 ⟨b1, o1, c1, rfl, hc1, k1, k2, k3, k4⟩; have hcp := run_copy_row (P := Tryz.prog) w1 40 40 3 5 (w.heap.size + 1) 0 8 8 ⟨b1, o1, none⟩ 8 c1 #[.int .u8 0, .int .u8 0, .int .u8 0, .int .u8 0, .int .u8 0, .int .u8 0, .int .u8 0, .int .u8 0] 22 (bcells xs) Tryz.underlying40 hsz8 k3 (by rw [bcells_length, HH.out.1]; rfl) hc1 (by rw [bcells_length, HH.out.1]; decide) (bcells_one xs); rw [HRX.out] at hcp; have HR1 := Lib.hid (And.intro k1 (And.intro k2 (And.intro k3 k4))); clear k1 k2 k3 k4 hc1) | fail)
  all_goals
    have hTR : (w1.setRow (w.heap.size + 1) R).heap[w.heap.size + 1]? = some (.cells R 22 (0, 0)) := setRow_heap _ _ _ _ _ _ HR1.out.2.2.1
    have hRR : (w1.setRow (w.heap.size + 1) R).heap[w.heap.size]? = some (.cells #[.int .u8 0, .int .u8 0, .int .u8 0, .int .u8 0, .int .u8 0, .int .u8 0, .int .u8 0, .int .u8 0] 22 (0, 0)) := (setRow_mod (w := w1) (g := w.heap.size + 1) R).obj HR1.out.2.1 (by omega)
    have hld := keyLoad_run hTR (by rw [HRR.out]; rfl)
    have hst : (keyStore (.pointer (some ⟨w.heap.size, 0, none⟩)) (.agg R)).run Tryz.prog (w1.setRow (w.heap.size + 1) R) = .ok () ((w1.setRow (w.heap.size + 1) R).setRow w.heap.size R) := by
      rw [HRR.out]
      rw [HRR.out] at hRR
      exact keyStore_run (K8.of xs) hRR (by decide)
    have H2 := Lib.hid (And.intro hTR hRR)
    clear hTR hRR
    go_wp2
    refine bodyPost_ret (results_cell_row rfl _ _ w.heap.size 22 R (0, 0) _ rfl (setRow_heap _ _ _ _ _ _ H2.out.2) Tryz.underlying22 rfl (by rw [keySize, HRR.out]; rfl)) rfl ?_
    refine ⟨by rw [HRR.out], ?_, ?_⟩
    · have := HH.out.2
      exact (setRow_mod R).obj ((setRow_mod R).obj HR1.out.1 (by omega)) (by omega)
    · exact (HR1.out.2.2.2.trans' (setRow_mod R) (fun i hi f => by omega)).trans' (setRow_mod R) (fun i hi f => by omega)
end

section
attribute [local go_sem] stPair gtPair gtK8 gtM6 run_store_func
attribute [local go_sem high] neqPair eqK8 eqM6
attribute [local go_sem ↓] load_fold store_fold alloc_fold slice_op_fold con_load_fold chg_load_fold ten_zero_fold con_alloc_fold con_store_fold con_zero_fold chg_alloc_fold chg_store_fold chg_zero_fold chg_put_fold macLoad_fold macStore_fold keyLoad_fold keyStore_fold
open Go.RowKit
set_option linter.unusedVariables false
set_option linter.unusedSimpArgs false
theorem wrap_u32 {n : Nat} (h : n < 256 ^ 4) : IntKind.u32.wrap (n : Int) = n := by simp [IntKind.wrap, IntKind.bits, IntKind.signed]; omega
set_option maxRecDepth 100000 in
set_option maxHeartbeats 2000000 in
theorem rr_pairs {S : Nat → Prop} {w : World} {C : Nat} {A : Option Addr} {c : Nat} {s0 : St} (B : List UInt8) (hb : w.heap[C]? = some (rrObj A B.length c s0.1 s0.2)) (hrow : RowAt S w A (bcells B)) (hat : s0.1 ≤ B.length) (hc : B.length ≤ c) (hB : B.length ≤ 100000000) (hS : ¬ S C) (n : Nat) (hn : n ≤ 1000) :
    Calls Tryz.prog 59 #[.pointer (some ⟨C, 0, none⟩), .int .i64 n] w fun e w' => ∃ v, e = .returned v ∧ w'.heap[C]? = some (rrObj A B.length c (rmany (rpr B) n s0).2.1 (rmany (rpr B) n s0).2.2) ∧
      w'.ownsRow w.heap.size 119 2 v (rmany (rpr B) n s0).1.length (prCells (rmany (rpr B) n s0).1) ∧ Mod (fun b => b = C) w w' := by
  obtain ⟨i0, hi, hz0, hz1, hz2⟩ := info_parts infopr
  have hlC := lt_of_block hb
  have hn4 : ∀ (W : World) (s : St), Mod (fun b => b = C) w W → W.heap[C]? = some (rrObj A B.length c s.1 s.2) → s.1 ≤ B.length → Calls Tryz.prog 44 #[.pointer (some ⟨C, 0, none⟩), .int .i64 4] W fun e W' => e = .returned (.int .u64 ((rnum B 4 s).1 : Nat)) ∧ W'.heap[C]? = some (rrObj A B.length c (rnum B 4 s).2.1 (rnum B 4 s).2.2) ∧ Mod (fun b => b = C) W W' :=
    fun W s hW h1 h2 => rr_n B h1 (hrow.keeps (hW.keeps (fun b _ hs e => hS (by subst e; exact hs)))) h2 hc hB 4 (by omega) hS
  have H0 := Lib.hid (And.intro hb (And.intro hat hlC))
  have HE := Lib.hid hn4
  clear hb hrow hat hn4 hlC
  go_enter Tryz.func59, Tryz.ntmps59
  go_wp2
  go_loopw [5, 6] (fun u i wr => ∃ (j : Nat) (acc : List Pr) (s : St) (v : Value), v = u ∧ i = .int .i64 j ∧ j ≤ n ∧ acc.length ≤ j ∧ rmany (rpr B) n s0 = (acc ++ (rmany (rpr B) (n - j) s).1, (rmany (rpr B) (n - j) s).2) ∧ s.1 ≤ B.length ∧
    wr.heap[C]? = some (rrObj A B.length c s.1 s.2) ∧ wr.ownsRow w.heap.size 119 2 v acc.length (prCells acc) ∧ Mod (fun b => b = C) w wr) (fun _ i _ => n - (intOf i).toNat)
  case atStart => exact ⟨0, [], s0, _, rfl, rfl, by omega, by simp, by simp, H0.out.2.1, H0.out.1, ⟨rfl, .inl ⟨rfl, rfl⟩⟩, Mod.refl _ _⟩
  case round =>
    obtain ⟨j, acc, s, v, rfl, rfl, hj, hacc, hsp, hs8, hbC, hown, hmw⟩ := hrel
    obtain ⟨at_, sh⟩ := s
    have d2 := blk_cell hbC 2
    simp at d2
    by_cases hlt : j < n
    · have p1 : (0:Int) ≤ j := by omega
      have p2 : (j:Int) < n := by omega
      cases sh
      · have hc1 := HE.out wr (at_, false) hmw hbC hs8
        have hnx : n - j = (n - (j + 1)) + 1 := by omega
        rw [hnx, rmany_step _ _ rfl] at hsp
        have hwl := hmw.size
        obtain ⟨s1, hs1⟩ : ∃ s1, s1 = (rnum B 4 (at_, false)).2 := ⟨_, rfl⟩
        have hs18 : s1.1 ≤ B.length := by rw [hs1]; exact rnum_le B 4 (at_, false) hs8
        obtain ⟨ya, hya⟩ : ∃ ya, ya = (rnum B 4 (at_, false)).1 := ⟨_, rfl⟩
        obtain ⟨yb, hyb⟩ : ∃ yb, yb = (rnum B 4 s1).1 := ⟨_, rfl⟩
        obtain ⟨s2, hs2⟩ : ∃ s2, s2 = (rnum B 4 s1).2 := ⟨_, rfl⟩
        have hs28 : s2.1 ≤ B.length := by rw [hs2]; exact rnum_le B 4 s1 hs18
        have hrp : rpr B (at_, false) = (⟨ya, yb⟩, s2) := by rw [hya, hyb, hs2, hs1]; rfl
        rw [hrp] at hsp
        have wa := wrap_u32 (n := ya) (by rw [hya]; exact rnum_lt B 4 _)
        have wb := wrap_u32 (n := yb) (by rw [hyb]; exact rnum_lt B 4 _)
        rw [← hya, ← hs1] at hc1
        have hc2 : ∀ W, Mod (fun b => b = C) w W → W.heap[C]? = some (rrObj A B.length c s1.1 s1.2) → Calls Tryz.prog 44 #[.pointer (some ⟨C, 0, none⟩), .int .i64 4] W fun e W' => e = .returned (.int .u64 (yb : Nat)) ∧ W'.heap[C]? = some (rrObj A B.length c s2.1 s2.2) ∧ Mod (fun b => b = C) W W' := by
          intro W hW h1
          rw [hyb, hs2]
          exact HE.out W s1 hW h1 hs18
        have hlC' : v.ownBlock ≠ some C := by
          intro e
          have hCl := H0.out.2.2
          rcases hown.2 with ⟨rfl, _⟩ | ⟨g, cap, cur, rfl, hg, _⟩
          · simp [Value.ownBlock] at e
          · obtain rfl : g = C := by simpa [Value.ownBlock] using e
            omega
        have HC1 := Lib.hid hc1
        have HC2 := Lib.hid hc2
        have HR := Lib.hid (And.intro hsp (And.intro hown (And.intro hmw (And.intro hs28 hbC))))
        have hacc8 : acc.length ≤ 1000 := by omega
        have HA8 := Lib.hid (And.intro hacc8 hwl)
        clear hc1 hc2 hsp hbC hmw hs8 hya hyb hs1 hs2 hown hs28 hs18 hrp hacc8 hwl
        go_wp2_with (first
          | (go_at_call 44; refine HC1.out.mono ?_; rintro e w5 ⟨rfl, k1, k3⟩; have HK5 := Lib.hid (And.intro k1 k3); clear HC1 k1 k3)
          | (go_at_call 44; refine (HC2.out _ (HR.out.2.2.1.trans HK5.out.2) HK5.out.1).mono ?_; rintro e w6 ⟨rfl, k1, k3⟩; (have hown6 : w6.ownsRow w.heap.size 119 2 v acc.length (prCells acc) := own_mod (own_mod HR.out.2.1 HK5.out.2 (fun k hk f => hlC' (by rw [← f]; exact hk))) k3 (fun k hk f => hlC' (by rw [← f]; exact hk))); have hsz6 := k3.size; have hsz5 := HK5.out.2.size; have HK6 := Lib.hid (And.intro k1 (And.intro k3 (And.intro hown6 (Nat.le_trans (Nat.le_trans HA8.out.2 hsz5) hsz6)))); clear HC2 k1 k3 hown6 hsz6 hsz5)
          | (at_builtin; refine wpList_append_lies _ (by rfl) _ _ 29 (by rfl) w.heap.size 119 i0 _ 2 8 Tryz.underlying29 hi hz0 hz1 hz2 (by rfl) (by decide) v acc.length (prCells acc) (by rfl) ?_ _ _ _ (Pr.cells ⟨ya, yb⟩) (by rfl) (by rfl) ?_ (by simp [Pr.cells, Value.oneCell']) (by decide) ?_ ?_ ?_ _ (by rfl) ?_;
             (exact own_mod HK6.out.2.2.1 ((Mod.refl No _).alloc _) (fun _ _ f => f));
             (exact World.news_of_block (at10 _ _));
             (have := HA8.out.1; unfold maxLen; omega);
             (have := HA8.out.1; omega);
             (have := HK6.out.2.2.2; simp; omega);
             intro g cap w7 own7 gr7 hat7 hlt7;
             have m7 : Mod (fun b => v.ownBlock = some b) w6 w7 := Mod.grown (((Mod.refl _ w6)).mono (fun _ f => f) |> (fun h => by repeat (first | with_reducible exact h | refine Mod.alloc ?_ _ | refine Mod.drew ?_))) gr7 (fun k hk => .inr hk);
             have H7 := Lib.hid (And.intro own7 m7); clear own7 m7 hat7 gr7)
          | fail)
        refine ⟨⟨j + 1, acc ++ [⟨ya, yb⟩], s2, _, rfl, by go_num, by omega, by simp; omega, ?_, HR.out.2.2.2.1, ?_, ?_, ?_⟩, by simp [intOf]; omega⟩
        · rw [HR.out.1]; simp
        · exact H7.out.2.obj HK6.out.1 hlC'
        · have := H7.out.1
          simpa [prCells] using this
        · have m6 : Mod (fun b => b = C) w w6 := (HR.out.2.2.1.trans HK5.out.2).trans HK6.out.2.1
          refine m6.trans' H7.out.2 (fun i hi f => ?_)
          rcases HR.out.2.1.2 with ⟨rfl, _⟩ | ⟨g', cap', cur', rfl, hg', _⟩
          · simp [Value.ownBlock] at f
          · obtain rfl : g' = i := by simpa [Value.ownBlock] using f
            omega
      · have HR := Lib.hid (And.intro hsp (And.intro hbC (And.intro hown hmw)))
        clear hsp hbC hown hmw
        go_wp2
        go_ret
        obtain ⟨h5, h6, h8, h9⟩ := HR.out
        rw [rmany_short (rpr B) (n - j) (s := (at_, true)) rfl] at h5
        rw [h5]
        exact ⟨v, rfl, h6, by simpa using h8, h9⟩
    · obtain rfl : n = j := by omega
      have HR := Lib.hid (And.intro hsp (And.intro hbC (And.intro hown hmw)))
      clear hsp hbC hown hmw
      go_wp2
      go_ret
      obtain ⟨h5, h6, h8, h9⟩ := HR.out
      rw [Nat.sub_self] at h5
      rw [h5]
      exact ⟨v, rfl, h6, by simpa [rmany] using h8, h9⟩
end

section
attribute [local go_sem] stPair gtPair gtK8 gtM6 run_store_func
attribute [local go_sem high] neqPair eqK8 eqM6
attribute [local go_sem ↓] load_fold store_fold alloc_fold slice_op_fold con_load_fold chg_load_fold ten_zero_fold con_alloc_fold con_store_fold con_zero_fold chg_alloc_fold chg_store_fold chg_zero_fold chg_put_fold macLoad_fold macStore_fold keyLoad_fold keyStore_fold
open Go.RowKit
set_option linter.unusedVariables false
set_option linter.unusedSimpArgs false
abbrev nilv : Value := .slice none 0 0
/-- The state of 'tenant' between two steps: its blocks are the first two that are new. -/
structure RT (w : World) (C : Nat) (A : Option Addr) (c : Nat) (B : List UInt8) (S : Nat → Prop) (t : Ten) (s : St) (vp vs vt : Value) (W : World) : Prop where
  rd : W.heap[C]? = some (rrObj A B.length c s.1 s.2)
  le : s.1 ≤ B.length
  ten : W.heap[w.heap.size + 1]? = some (.cells (t.cells vp vs vt) 31 (0, 0))
  res : W.heap[w.heap.size]? = some (.cells zTen 31 (0, 0))
  row : RowAt S W A (bcells B)
  mod : Mod (fun b => b = C) w W
  sz : w.heap.size + 2 ≤ W.heap.size
  hc : B.length ≤ c
  hB : B.length ≤ 100000000
  SC : ¬ S C
  Slt : ∀ b, S b → b < w.heap.size
  Clt : C < w.heap.size
theorem ten_csize (t : Ten) (vp vs vt : Value) : (t.cells vp vs vt).size = 33 := rfl
section
variable {w : World} {C : Nat} {A : Option Addr} {c : Nat} {B : List UInt8} {S : Nat → Prop} {t : Ten} {s : St} {vp vs vt : Value} {W : World}
theorem RT.call (h : RT w C A c B S t s vp vs vt W) {W' : World} (hm : Mod (fun b => b = C) W W') {s' : St} (hrd : W'.heap[C]? = some (rrObj A B.length c s'.1 s'.2)) (hle : s'.1 ≤ B.length) : RT w C A c B S t s' vp vs vt W' := by
  have := h.Clt
  exact ⟨hrd, hle, hm.obj h.ten (by omega), hm.obj h.res (by omega), h.row.keeps (hm.keeps (fun b _ hb f => h.SC (by subst f; exact hb))), h.mod.trans hm, Nat.le_trans h.sz hm.size, h.hc, h.hB, h.SC, h.Slt, h.Clt⟩
theorem RT.keep (h : RT w C A c B S t s vp vs vt W) {W' : World} {F : Nat → Prop} (hm : Mod F W W') (hF : ∀ b, F b → w.heap.size + 2 ≤ b) : RT w C A c B S t s vp vs vt W' := by
  have := h.Clt
  refine ⟨hm.obj h.rd (fun f => ?_), h.le, hm.obj h.ten (fun f => ?_), hm.obj h.res (fun f => ?_), h.row.keeps (hm.keeps (fun b _ hb f => ?_)), h.mod.trans' hm (fun i hi f => ?_), Nat.le_trans h.sz hm.size, h.hc, h.hB, h.SC, h.Slt, h.Clt⟩
  · have := hF _ f; omega
  · have := hF _ f; omega
  · have := hF _ f; omega
  · have := hF _ f; have := h.Slt b hb; omega
  · have := hF _ f; omega
theorem RT.into (h : RT w C A c B S t s vp vs vt W) {W' : World} (hm : Mod (fun b => b = w.heap.size + 1) W W') {t' : Ten} {s' : St} {vp' vs' vt' : Value} (ht : W'.heap[w.heap.size + 1]? = some (.cells (t'.cells vp' vs' vt') 31 (0, 0))) (hs : s' = s) : RT w C A c B S t' s' vp' vs' vt' W' := by
  have := h.Clt
  subst hs
  refine ⟨hm.obj h.rd (by omega), h.le, ht, hm.obj h.res (by omega), h.row.keeps (hm.keeps (fun b _ hb f => ?_)), h.mod.trans' hm (fun i hi f => by omega), Nat.le_trans h.sz hm.size, h.hc, h.hB, h.SC, h.Slt, h.Clt⟩
  have := h.Slt b hb; omega
theorem RT.retag (h : RT w C A c B S t s vp vs vt W) {t' : Ten} (he : t'.cells vp vs vt = t.cells vp vs vt) : RT w C A c B S t' s vp vs vt W :=
  ⟨h.rd, h.le, by rw [he]; exact h.ten, h.res, h.row, h.mod, h.sz, h.hc, h.hB, h.SC, h.Slt, h.Clt⟩
theorem RT.set (h : RT w C A c B S t s vp vs vt W) (o : Nat) (V : Value) {t' : Ten} {s' : St} {vp' vs' vt' : Value} (he : (t.cells vp vs vt).setIfInBounds o V = t'.cells vp' vs' vt') (hs : s' = s) : RT w C A c B S t' s' vp' vs' vt' (W.setCell ⟨w.heap.size + 1, o, none⟩ V) :=
  h.into (Mod.setCell (p := ⟨w.heap.size + 1, o, none⟩) (Mod.refl (fun b => b = w.heap.size + 1) W) (.inr rfl) V) (by rw [heap_setCell_row h.ten, he]) hs
theorem RT.spl (h : RT w C A c B S t s vp vs vt W) (o : Nat) (xs : List Value) {t' : Ten} {s' : St} {vp' vs' vt' : Value} (he : splice (t.cells vp vs vt).toList o xs = (t'.cells vp' vs' vt').toList) (hs : s' = s) : RT w C A c B S t' s' vp' vs' vt' (W.setRow (w.heap.size + 1) (splice (t.cells vp vs vt).toList o xs).toArray) :=
  h.into (setRow_mod _) (by rw [setRow_heap _ _ _ _ _ _ h.ten, he]) hs
theorem RT.cell (h : RT w C A c B S t s vp vs vt W) (o : Nat) (ho : o < 33) : W.frozen? ⟨w.heap.size + 1, o, none⟩ = false ∧ ∃ u, W.cell? ⟨w.heap.size + 1, o, none⟩ = some u :=
  ⟨blk_free h.ten o, _, (blk_cell h.ten o).trans (Array.getElem?_eq_getElem (by rw [ten_csize]; exact ho))⟩
theorem RT.num (h : RT w C A c B S t s vp vs vt W) (k : Nat) (hk : k ≤ 7) (o : Nat) (ho : o < 33) : Calls Tryz.prog 44 #[.pointer (some ⟨C, 0, none⟩), .int .i64 k] W fun e w' => e = .returned (.int .u64 ((rnum B k s).1 : Nat)) ∧ RT w C A c B S t (rnum B k s).2 vp vs vt w' ∧ Mod (fun b => b = C) W w' ∧ w'.frozen? ⟨w.heap.size + 1, o, none⟩ = false ∧ ∃ u, w'.cell? ⟨w.heap.size + 1, o, none⟩ = some u := by
  refine (rr_n B h.rd h.row h.le h.hc h.hB k hk h.SC).mono ?_
  rintro e w' ⟨he, hb, hm⟩
  have h' := h.call hm hb (rnum_le B k s h.le)
  exact ⟨he, h', hm, h'.cell o ho⟩
theorem RT.name (h : RT w C A c B S t s vp vs vt W) : Calls Tryz.prog 46 #[.pointer (some ⟨C, 0, none⟩)] W fun e w' => e = .returned (.string (str (rname B s).1)) ∧ RT w C A c B S t (rname B s).2 vp vs vt w' ∧ w'.frozen? ⟨w.heap.size + 1, 0, none⟩ = false ∧ ∃ u, w'.cell? ⟨w.heap.size + 1, 0, none⟩ = some u := by
  refine (rr_name B h.rd h.row h.le h.hc h.hB h.SC).mono ?_
  rintro e w' ⟨he, hb, hm⟩
  have h' := h.call hm hb (rtake_le B _ _ (rnum_le B 1 s h.le))
  exact ⟨he, h', h'.cell 0 (by omega)⟩
theorem RT.mac (h : RT w C A c B S t s vp vs vt W) (o : Nat) (ho : o + 6 ≤ 33) : Calls Tryz.prog 47 #[.pointer (some ⟨C, 0, none⟩)] W fun e w' => e = .returned (.agg (bcells (M6.of (rtake B s 6).1).l).toArray) ∧ RT w C A c B S t (rtake B s 6).2 vp vs vt w' ∧
    (macStore (.pointer (some ⟨w.heap.size + 1, o, none⟩)) (.agg (bcells (M6.of (rtake B s 6).1).l).toArray)).run Tryz.prog w' = .ok () (w'.setRow (w.heap.size + 1) (splice (t.cells vp vs vt).toList o (bcells (M6.of (rtake B s 6).1).l)).toArray) := by
  refine (rr_mac B h.rd h.row h.le h.hc h.hB h.SC).mono ?_
  rintro e w' ⟨he, hb, hm⟩
  have h' := h.call hm hb (rtake_le B s 6 h.le)
  exact ⟨he, h', macStore_run _ h'.ten (by rw [ten_csize]; exact ho)⟩
theorem RT.key (h : RT w C A c B S t s vp vs vt W) (o : Nat) (ho : o + 8 ≤ 33) : Calls Tryz.prog 48 #[.pointer (some ⟨C, 0, none⟩)] W fun e w' => e = .returned (.agg (bcells (K8.of (rtake B s 8).1).l).toArray) ∧ RT w C A c B S t (rtake B s 8).2 vp vs vt w' ∧
    (keyStore (.pointer (some ⟨w.heap.size + 1, o, none⟩)) (.agg (bcells (K8.of (rtake B s 8).1).l).toArray)).run Tryz.prog w' = .ok () (w'.setRow (w.heap.size + 1) (splice (t.cells vp vs vt).toList o (bcells (K8.of (rtake B s 8).1).l)).toArray) := by
  refine (rr_key B h.rd h.row h.le h.hc h.hB h.SC).mono ?_
  rintro e w' ⟨he, hb, hm⟩
  have h' := h.call hm hb (rtake_le B s 8 h.le)
  exact ⟨he, h', keyStore_run _ h'.ten (by rw [ten_csize]; exact ho)⟩
theorem RT.prs (h : RT w C A c B S t s vp vs vt W) (n : Nat) (hn : n ≤ 1000) (o : Nat) (ho : o < 33) : Calls Tryz.prog 59 #[.pointer (some ⟨C, 0, none⟩), .int .i64 n] W fun e w' => ∃ P p, e = .returned (.slice P (rmany (rpr B) n s).1.length p) ∧ RowAt (fun b => w.heap.size + 2 ≤ b) w' P (prCells (rmany (rpr B) n s).1) ∧ RT w C A c B S t (rmany (rpr B) n s).2 vp vs vt w' ∧ Mod (fun b => b = C) W w' ∧ w'.frozen? ⟨w.heap.size + 1, o, none⟩ = false ∧ ∃ u, w'.cell? ⟨w.heap.size + 1, o, none⟩ = some u := by
  refine (rr_pairs B h.rd h.row h.le h.hc h.hB h.SC n hn).mono ?_
  rintro e w' ⟨v, he, hb, hown, hm⟩
  obtain ⟨P, p, hv, hr⟩ := own_rowAt hown
  have h' := h.call hm hb (rmany_le (rpr_le B) n s h.le)
  have := h.sz
  exact ⟨P, p, by rw [he, hv], hr.mono (fun b _ hb => by omega), h', hm, h'.cell o ho⟩
end
/-- A call as one step of a region that draws its order: for 'go_region_law'. -/
theorem step_calls_at {P : Program} {ops : Array Oper} {o : Oper} {a : Act} {w : World} {K : Act → World → Prop} {Q : Exit → Act → World → Prop} {E : Prop} {f : Nat} {args : Array Value} {R : Value → World → Prop} (hgd : o.guard = none) (hr : (execOp a.eval o).run P w = .ok (.enter f args) w)
    (hc : Calls P f args w fun e w' => ∃ v, e = .returned v ∧ R v w') (h : ∀ v w', R v w' → K (a.put o.dst v) w') : if Region.wanted o (yielded ops a.tmps) = true then Oper.wp P o a w K Q else E := by
  rw [if_pos (by simp [Region.wanted, hgd])]
  unfold Oper.wp
  rw [hr]
  show Calls P f args w _
  refine hc.mono ?_
  rintro e w' ⟨v, rfl, hR⟩
  exact h v w' hR
theorem wrap_u16 {n : Nat} (h : n < 256 ^ 2) : IntKind.u16.wrap (n : Int) = n := by simp [IntKind.wrap, IntKind.bits, IntKind.signed]; omega
theorem wrap_i64 {n : Nat} (h : n < 256 ^ 2) : IntKind.i64.wrap (n : Int) = n := by simp [IntKind.wrap, IntKind.bits, IntKind.signed]; omega
end

section
attribute [local go_sem] stPair gtPair gtK8 gtM6 run_store_func
attribute [local go_sem high] neqPair eqK8 eqM6
attribute [local go_sem ↓] load_fold store_fold alloc_fold slice_op_fold con_load_fold chg_load_fold ten_zero_fold con_alloc_fold con_store_fold con_zero_fold chg_alloc_fold chg_store_fold chg_zero_fold chg_put_fold macLoad_fold macStore_fold keyLoad_fold keyStore_fold
open Go.RowKit
set_option linter.unusedVariables false
set_option linter.unusedSimpArgs false
/-- What the reference's 'tenant' brings about. -/
def RrTen (w : World) (C : Nat) (A : Option Addr) (c : Nat) (B : List UInt8) (s : St) (e : Ending) (w' : World) : Prop :=
  ∃ x : TV, e = .returned (.agg x.cells.toArray) ∧ x.t = (rten B s).1 ∧ x.Rows (fun b => w.heap.size ≤ b) w' ∧ w'.heap[C]? = some (rrObj A B.length c (rten B s).2.1 (rten B s).2.2) ∧ Mod (fun b => b = C) w w'
set_option maxRecDepth 100000 in
set_option maxHeartbeats 4000000 in
theorem rr_tenant {S : Nat → Prop} {w : World} {C : Nat} {A : Option Addr} {c : Nat} {s : St} (B : List UInt8) (hb : w.heap[C]? = some (rrObj A B.length c s.1 s.2)) (hrow : RowAt S w A (bcells B)) (hat : s.1 ≤ B.length) (hc : B.length ≤ c) (hB : B.length ≤ 100000000) (hS : ¬ S C) (hSl : ∀ b, S b → b < w.heap.size) :
    Calls Tryz.prog 45 #[.pointer (some ⟨C, 0, none⟩)] w (RrTen w C A c B s) := by
  have hlt := lt_of_block hb
  have hT0 : RT w C A c B S .zero s nilv nilv nilv ((w.alloc (.cells zTen 31)).alloc (.cells zTen 31)) := by
    have hm : Mod No w ((w.alloc (.cells zTen 31)).alloc (.cells zTen 31)) := ((Mod.refl _ _).alloc _).alloc _
    exact ⟨hm.obj hb id, hat, at21 w _ _, at20 w _ _, hrow.keeps (hm.keeps (fun _ _ _ f => f)), hm.mono (fun _ f => f.elim), by simp, hc, hB, hS, hSl, hlt⟩
  have HTZ := Lib.hid hT0
  have hal := tenAlloc_run
  obtain ⟨r0, hr0⟩ : ∃ r, r = rk B s 0 := ⟨_, rfl⟩
  have HR0 := Lib.hid hr0
  clear hT0 hb hrow hat hc hB hS hSl hlt hr0
  go_enter Tryz.func45, Tryz.ntmps45
  go_upto_region 2 with fail
  refine grab_world fun W0 hW0 => ?_
  have hT0 : RT w C A c B S r0.t r0.s nilv nilv nilv W0 := by rw [hW0, HR0.out]; exact HTZ.out
  have HT0 := Lib.hid hT0
  clear hT0 hW0 HTZ hal
  -- 0: ('name',)
  have hk0 := HT0.out.name
  obtain ⟨x0, hx0⟩ : ∃ x, x = (rname B r0.s).1 := ⟨_, rfl⟩
  rw [← hx0] at hk0
  have HC0 := Lib.hid hk0
  have HX0 := Lib.hid hx0
  clear hk0 hx0
  go_upto_region 3 with (first | (go_at_call 46; refine HC0.out.mono ?_; rintro e v0 ⟨rfl, rt, fz, u0, cu⟩; have HN0 := Lib.hid rt; clear rt) | fail)
  refine grab_world fun W1 hW1 => ?_
  obtain ⟨r1, hr1⟩ : ∃ r : RS, r = { r0 with t := { r0.t with name := x0 }, s := (rname B r0.s).2 } := ⟨_, rfl⟩
  have hT1 : RT w C A c B S r1.t r1.s nilv nilv nilv W1 := by rw [hW1, hr1]; exact HN0.out.set 0 _ rfl rfl
  have HR1 := Lib.hid (show r1 = rk B s 1 by rw [hr1, HX0.out, HR0.out]; rfl)
  have HT1 := Lib.hid hT1
  clear hT1 hW1 HC0 HN0 HT0 fz cu hr1 HR0 HX0
  -- 1: ('n', 4, 1, 'vni', 'u32')
  have hk1 := HT1.out.num 4 (by omega) 1 (by omega)
  obtain ⟨x1, hx1⟩ : ∃ x, x = (rnum B 4 r1.s).1 := ⟨_, rfl⟩
  rw [← hx1] at hk1
  have e1 := wrap_u32 (n := x1) (by rw [hx1]; exact rnum_lt B 4 _)
  have HC1 := Lib.hid hk1
  have HX1 := Lib.hid hx1
  clear hk1 hx1
  go_upto_region 4 with (first | (go_at_call 44; refine HC1.out.mono ?_; rintro e v1 ⟨rfl, rt, _, fz, u1, cu⟩; have HN1 := Lib.hid rt; clear rt) | fail)
  refine grab_world fun W2 hW2 => ?_
  obtain ⟨r2, hr2⟩ : ∃ r : RS, r = { r1 with t := { r1.t with vni := x1 }, s := (rnum B 4 r1.s).2 } := ⟨_, rfl⟩
  have hT2 : RT w C A c B S r2.t r2.s nilv nilv nilv W2 := by rw [hW2, hr2]; exact HN1.out.set 1 _ rfl rfl
  have HR2 := Lib.hid (show r2 = rk B s 2 by rw [hr2, HX1.out, HR1.out]; rfl)
  have HT2 := Lib.hid hT2
  clear hT2 hW2 HC1 HN1 HT1 fz cu e1 hr2 HR1 HX1
  -- 2: ('key', 2, 'key')
  have hk2 := HT2.out.key 2 (by omega)
  obtain ⟨x2, hx2⟩ : ∃ x, x = K8.of (rtake B r2.s 8).1 := ⟨_, rfl⟩
  rw [← hx2] at hk2
  obtain ⟨a2, ha2⟩ : ∃ a, a = (bcells x2.l).toArray := ⟨_, rfl⟩
  obtain ⟨b2, hb2⟩ : ∃ b, b = (splice (r2.t.cells nilv nilv nilv).toList 2 (bcells x2.l)).toArray := ⟨_, rfl⟩
  rw [← ha2, ← hb2] at hk2
  have HC2 := Lib.hid hk2
  have HX2 := Lib.hid (And.intro hx2 hb2)
  clear hk2 hx2 ha2 hb2
  go_upto_region 5 with (first | (go_at_call 48; refine HC2.out.mono ?_; rintro e v2 ⟨rfl, rt, fz⟩; have HN2 := Lib.hid rt; clear rt) | fail)
  refine grab_world fun W3 hW3 => ?_
  obtain ⟨r3, hr3⟩ : ∃ r : RS, r = { r2 with t := { r2.t with key := x2 }, s := (rtake B r2.s 8).2 } := ⟨_, rfl⟩
  have hT3 : RT w C A c B S r3.t r3.s nilv nilv nilv W3 := by rw [hW3, hr3, HX2.out.2]; exact HN2.out.spl 2 _ rfl rfl
  have HR3 := Lib.hid (show r3 = rk B s 3 by rw [hr3, HX2.out.1, HR2.out]; rfl)
  have HT3 := Lib.hid hT3
  clear hT3 hW3 HC2 HN2 HT2 fz hr3 HR2 HX2
  -- 3: ('n', 4, 10, 'vtep', 'u32')
  have hk3 := HT3.out.num 4 (by omega) 10 (by omega)
  obtain ⟨x3, hx3⟩ : ∃ x, x = (rnum B 4 r3.s).1 := ⟨_, rfl⟩
  rw [← hx3] at hk3
  have e3 := wrap_u32 (n := x3) (by rw [hx3]; exact rnum_lt B 4 _)
  have HC3 := Lib.hid hk3
  have HX3 := Lib.hid hx3
  clear hk3 hx3
  go_upto_region 6 with (first | (go_at_call 44; refine HC3.out.mono ?_; rintro e v3 ⟨rfl, rt, _, fz, u3, cu⟩; have HN3 := Lib.hid rt; clear rt) | fail)
  refine grab_world fun W4 hW4 => ?_
  obtain ⟨r4, hr4⟩ : ∃ r : RS, r = { r3 with t := { r3.t with vtep := x3 }, s := (rnum B 4 r3.s).2 } := ⟨_, rfl⟩
  have hT4 : RT w C A c B S r4.t r4.s nilv nilv nilv W4 := by rw [hW4, hr4]; exact HN3.out.set 10 _ rfl rfl
  have HR4 := Lib.hid (show r4 = rk B s 4 by rw [hr4, HX3.out, HR3.out]; rfl)
  have HT4 := Lib.hid hT4
  clear hT4 hW4 HC3 HN3 HT3 fz cu e3 hr4 HR3 HX3
  -- 4: ('mac', 11, 'vmac')
  have hk4 := HT4.out.mac 11 (by omega)
  obtain ⟨x4, hx4⟩ : ∃ x, x = M6.of (rtake B r4.s 6).1 := ⟨_, rfl⟩
  rw [← hx4] at hk4
  obtain ⟨a4, ha4⟩ : ∃ a, a = (bcells x4.l).toArray := ⟨_, rfl⟩
  obtain ⟨b4, hb4⟩ : ∃ b, b = (splice (r4.t.cells nilv nilv nilv).toList 11 (bcells x4.l)).toArray := ⟨_, rfl⟩
  rw [← ha4, ← hb4] at hk4
  have HC4 := Lib.hid hk4
  have HX4 := Lib.hid (And.intro hx4 hb4)
  clear hk4 hx4 ha4 hb4
  go_upto_region 7 with (first | (go_at_call 47; refine HC4.out.mono ?_; rintro e v4 ⟨rfl, rt, fz⟩; have HN4 := Lib.hid rt; clear rt) | fail)
  refine grab_world fun W5 hW5 => ?_
  obtain ⟨r5, hr5⟩ : ∃ r : RS, r = { r4 with t := { r4.t with vmac := x4 }, s := (rtake B r4.s 6).2 } := ⟨_, rfl⟩
  have hT5 : RT w C A c B S r5.t r5.s nilv nilv nilv W5 := by rw [hW5, hr5, HX4.out.2]; exact HN4.out.spl 11 _ rfl rfl
  have HR5 := Lib.hid (show r5 = rk B s 5 by rw [hr5, HX4.out.1, HR4.out]; rfl)
  have HT5 := Lib.hid hT5
  clear hT5 hW5 HC4 HN4 HT4 fz hr5 HR4 HX4
  -- 5: ('mac', 17, 'host')
  have hk5 := HT5.out.mac 17 (by omega)
  obtain ⟨x5, hx5⟩ : ∃ x, x = M6.of (rtake B r5.s 6).1 := ⟨_, rfl⟩
  rw [← hx5] at hk5
  obtain ⟨a5, ha5⟩ : ∃ a, a = (bcells x5.l).toArray := ⟨_, rfl⟩
  obtain ⟨b5, hb5⟩ : ∃ b, b = (splice (r5.t.cells nilv nilv nilv).toList 17 (bcells x5.l)).toArray := ⟨_, rfl⟩
  rw [← ha5, ← hb5] at hk5
  have HC5 := Lib.hid hk5
  have HX5 := Lib.hid (And.intro hx5 hb5)
  clear hk5 hx5 ha5 hb5
  go_upto_region 8 with (first | (go_at_call 47; refine HC5.out.mono ?_; rintro e v5 ⟨rfl, rt, fz⟩; have HN5 := Lib.hid rt; clear rt) | fail)
  refine grab_world fun W6 hW6 => ?_
  obtain ⟨r6, hr6⟩ : ∃ r : RS, r = { r5 with t := { r5.t with host := x5 }, s := (rtake B r5.s 6).2 } := ⟨_, rfl⟩
  have hT6 : RT w C A c B S r6.t r6.s nilv nilv nilv W6 := by rw [hW6, hr6, HX5.out.2]; exact HN5.out.spl 17 _ rfl rfl
  have HR6 := Lib.hid (show r6 = rk B s 6 by rw [hr6, HX5.out.1, HR5.out]; rfl)
  have HT6 := Lib.hid hT6
  clear hT6 hW6 HC5 HN5 HT5 fz hr6 HR5 HX5
  -- 6: ('n', 2, 24, 'lo', 'u16')
  have hk6 := HT6.out.num 2 (by omega) 24 (by omega)
  obtain ⟨x6, hx6⟩ : ∃ x, x = (rnum B 2 r6.s).1 := ⟨_, rfl⟩
  rw [← hx6] at hk6
  have e6 := wrap_u16 (n := x6) (by rw [hx6]; exact rnum_lt B 2 _)
  have HC6 := Lib.hid hk6
  have HX6 := Lib.hid hx6
  clear hk6 hx6
  go_upto_region 9 with (first | (go_at_call 44; refine HC6.out.mono ?_; rintro e v6 ⟨rfl, rt, _, fz, u6, cu⟩; have HN6 := Lib.hid rt; clear rt) | fail)
  refine grab_world fun W7 hW7 => ?_
  obtain ⟨r7, hr7⟩ : ∃ r : RS, r = { r6 with t := { r6.t with lo := x6 }, s := (rnum B 2 r6.s).2 } := ⟨_, rfl⟩
  have hT7 : RT w C A c B S r7.t r7.s nilv nilv nilv W7 := by rw [hW7, hr7]; exact HN6.out.set 24 _ rfl rfl
  have HR7 := Lib.hid (show r7 = rk B s 7 by rw [hr7, HX6.out, HR6.out]; rfl)
  have HT7 := Lib.hid hT7
  clear hT7 hW7 HC6 HN6 HT6 fz cu e6 hr7 HR6 HX6
  -- 7: ('n', 2, 25, 'hi', 'u16')
  have hk7 := HT7.out.num 2 (by omega) 25 (by omega)
  obtain ⟨x7, hx7⟩ : ∃ x, x = (rnum B 2 r7.s).1 := ⟨_, rfl⟩
  rw [← hx7] at hk7
  have e7 := wrap_u16 (n := x7) (by rw [hx7]; exact rnum_lt B 2 _)
  have HC7 := Lib.hid hk7
  have HX7 := Lib.hid hx7
  clear hk7 hx7
  go_upto_region 10 with (first | (go_at_call 44; refine HC7.out.mono ?_; rintro e v7 ⟨rfl, rt, _, fz, u7, cu⟩; have HN7 := Lib.hid rt; clear rt) | fail)
  refine grab_world fun W8 hW8 => ?_
  obtain ⟨r8, hr8⟩ : ∃ r : RS, r = { r7 with t := { r7.t with hi := x7 }, s := (rnum B 2 r7.s).2 } := ⟨_, rfl⟩
  have hT8 : RT w C A c B S r8.t r8.s nilv nilv nilv W8 := by rw [hW8, hr8]; exact HN7.out.set 25 _ rfl rfl
  have HR8 := Lib.hid (show r8 = rk B s 8 by rw [hr8, HX7.out, HR7.out]; rfl)
  have HT8 := Lib.hid hT8
  clear hT8 hW8 HC7 HN7 HT7 fz cu e7 hr8 HR7 HX7
  -- 8: ('n', 1, 26, 'filter', 'i64')
  have hk8 := HT8.out.num 1 (by omega) 26 (by omega)
  obtain ⟨x8, hx8⟩ : ∃ x, x = (rnum B 1 r8.s).1 := ⟨_, rfl⟩
  rw [← hx8] at hk8
  have e8 := wrap_i64 (n := x8) (Nat.lt_of_lt_of_le (by rw [hx8]; exact rnum_lt B 1 _) (by decide))
  have HC8 := Lib.hid hk8
  have HX8 := Lib.hid hx8
  clear hk8 hx8
  go_upto_region 11 with (first | (go_at_call 44; refine HC8.out.mono ?_; rintro e v8 ⟨rfl, rt, _, fz, u8, cu⟩; have HN8 := Lib.hid rt; clear rt) | fail)
  refine grab_world fun W9 hW9 => ?_
  obtain ⟨r9, hr9⟩ : ∃ r : RS, r = { r8 with t := { r8.t with filter := x8 }, s := (rnum B 1 r8.s).2 } := ⟨_, rfl⟩
  have hT9 : RT w C A c B S r9.t r9.s nilv nilv nilv W9 := by rw [hW9, hr9]; exact HN8.out.set 26 _ rfl rfl
  have HR9 := Lib.hid (show r9 = rk B s 9 by rw [hr9, HX8.out, HR8.out]; rfl)
  have HT9 := Lib.hid hT9
  clear hT9 hW9 HC8 HN8 HT8 fz cu e8 hr9 HR8 HX8
  -- 9: ('n', 2, 29, 'sess', 'i64')
  have hk9 := HT9.out.num 2 (by omega) 29 (by omega)
  obtain ⟨x9, hx9⟩ : ∃ x, x = (rnum B 2 r9.s).1 := ⟨_, rfl⟩
  rw [← hx9] at hk9
  have e9 := wrap_i64 (n := x9) (by rw [hx9]; exact rnum_lt B 2 _)
  have HC9 := Lib.hid hk9
  have HX9 := Lib.hid hx9
  clear hk9 hx9
  go_upto_region 12 with (first | (go_at_call 44; refine HC9.out.mono ?_; rintro e v9 ⟨rfl, rt, _, fz, u9, cu⟩; have HN9 := Lib.hid rt; clear rt) | fail)
  refine grab_world fun W10 hW10 => ?_
  obtain ⟨r10, hr10⟩ : ∃ r : RS, r = { r9 with t := { r9.t with sess := x9 }, s := (rnum B 2 r9.s).2 } := ⟨_, rfl⟩
  have hT10 : RT w C A c B S r10.t r10.s nilv nilv nilv W10 := by rw [hW10, hr10]; exact HN9.out.set 29 _ rfl rfl
  have HR10 := Lib.hid (show r10 = rk B s 10 by rw [hr10, HX9.out, HR9.out]; rfl)
  have HT10 := Lib.hid hT10
  clear hT10 hW10 HC9 HN9 HT9 fz cu e9 hr10 HR9 HX9
  -- 10: ('n', 2, 30, 'queue', 'i64')
  have hk10 := HT10.out.num 2 (by omega) 30 (by omega)
  obtain ⟨x10, hx10⟩ : ∃ x, x = (rnum B 2 r10.s).1 := ⟨_, rfl⟩
  rw [← hx10] at hk10
  have e10 := wrap_i64 (n := x10) (by rw [hx10]; exact rnum_lt B 2 _)
  have HC10 := Lib.hid hk10
  have HX10 := Lib.hid hx10
  clear hk10 hx10
  go_upto_region 13 with (first | (go_at_call 44; refine HC10.out.mono ?_; rintro e v10 ⟨rfl, rt, _, fz, u10, cu⟩; have HN10 := Lib.hid rt; clear rt) | fail)
  refine grab_world fun W11 hW11 => ?_
  obtain ⟨r11, hr11⟩ : ∃ r : RS, r = { r10 with t := { r10.t with queue := x10 }, s := (rnum B 2 r10.s).2 } := ⟨_, rfl⟩
  have hT11 : RT w C A c B S r11.t r11.s nilv nilv nilv W11 := by rw [hW11, hr11]; exact HN10.out.set 30 _ rfl rfl
  have HR11 := Lib.hid (show r11 = rk B s 11 by rw [hr11, HX10.out, HR10.out]; rfl)
  have HT11 := Lib.hid hT11
  clear hT11 hW11 HC10 HN10 HT10 fz cu e10 hr11 HR10 HX10
  -- 11: ('n', 4, 31, 'rate', 'u32')
  have hk11 := HT11.out.num 4 (by omega) 31 (by omega)
  obtain ⟨x11, hx11⟩ : ∃ x, x = (rnum B 4 r11.s).1 := ⟨_, rfl⟩
  rw [← hx11] at hk11
  have e11 := wrap_u32 (n := x11) (by rw [hx11]; exact rnum_lt B 4 _)
  have HC11 := Lib.hid hk11
  have HX11 := Lib.hid hx11
  clear hk11 hx11
  go_upto_region 14 with (first | (go_at_call 44; refine HC11.out.mono ?_; rintro e v11 ⟨rfl, rt, _, fz, u11, cu⟩; have HN11 := Lib.hid rt; clear rt) | fail)
  refine grab_world fun W12 hW12 => ?_
  obtain ⟨r12, hr12⟩ : ∃ r : RS, r = { r11 with t := { r11.t with rate := x11 }, s := (rnum B 4 r11.s).2 } := ⟨_, rfl⟩
  have hT12 : RT w C A c B S r12.t r12.s nilv nilv nilv W12 := by rw [hW12, hr12]; exact HN11.out.set 31 _ rfl rfl
  have HR12 := Lib.hid (show r12 = rk B s 12 by rw [hr12, HX11.out, HR11.out]; rfl)
  have HT12 := Lib.hid hT12
  clear hT12 hW12 HC11 HN11 HT11 fz cu e11 hr12 HR11 HX11
  -- 12: ('n', 4, 32, 'burst', 'u32')
  have hk12 := HT12.out.num 4 (by omega) 32 (by omega)
  obtain ⟨x12, hx12⟩ : ∃ x, x = (rnum B 4 r12.s).1 := ⟨_, rfl⟩
  rw [← hx12] at hk12
  have e12 := wrap_u32 (n := x12) (by rw [hx12]; exact rnum_lt B 4 _)
  have HC12 := Lib.hid hk12
  have HX12 := Lib.hid hx12
  clear hk12 hx12
  go_upto_region 15 with (first | (go_at_call 44; refine HC12.out.mono ?_; rintro e v12 ⟨rfl, rt, _, fz, u12, cu⟩; have HN12 := Lib.hid rt; clear rt) | fail)
  refine grab_world fun W13 hW13 => ?_
  obtain ⟨r13, hr13⟩ : ∃ r : RS, r = { r12 with t := { r12.t with burst := x12 }, s := (rnum B 4 r12.s).2 } := ⟨_, rfl⟩
  have hT13 : RT w C A c B S r13.t r13.s nilv nilv nilv W13 := by rw [hW13, hr13]; exact HN12.out.set 32 _ rfl rfl
  have HR13 := Lib.hid (show r13 = rk B s 13 by rw [hr13, HX12.out, HR12.out]; rfl)
  have HT13 := Lib.hid hT13
  clear hT13 hW13 HC12 HN12 HT12 fz cu e12 hr13 HR12 HX12
  -- 13: ('c', 'np')
  have hk13 := HT13.out.num 1 (by omega) 0 (by omega)
  obtain ⟨x13, hx13⟩ : ∃ x, x = (rnum B 1 r13.s).1 := ⟨_, rfl⟩
  rw [← hx13] at hk13
  have e13 := wrap_i64 (n := x13) (Nat.lt_of_lt_of_le (by rw [hx13]; exact rnum_lt B 1 _) (by decide))
  have hy13 : x13 < 256 := by rw [hx13]; exact rnum_lt B 1 _
  have HC13 := Lib.hid hk13
  have HX13 := Lib.hid hx13
  clear hk13 hx13
  go_upto_region 16 with (first | (go_at_call 44; refine HC13.out.mono ?_; rintro e v13 ⟨rfl, rt, _, fz, u13, cu⟩; have HN13 := Lib.hid rt; clear rt) | fail)
  refine grab_world fun W14 hW14 => ?_
  obtain ⟨r14, hr14⟩ : ∃ r : RS, r = { r13 with np := x13, s := (rnum B 1 r13.s).2 } := ⟨_, rfl⟩
  have hT14 : RT w C A c B S r14.t r14.s nilv nilv nilv W14 := by rw [hW14, hr14]; exact HN13.out
  have HR14 := Lib.hid (show r14 = rk B s 14 by rw [hr14, HX13.out, HR13.out]; rfl)
  have HT14 := Lib.hid hT14
  have HY13 := Lib.hid (And.intro (show r14.np = x13 by rw [hr14]) hy13)
  clear hT14 hW14 HC13 HN13 HT13 fz cu e13 hy13 hr14 HR13 HX13
  -- 14: ('c', 'ns')
  have hk14 := HT14.out.num 1 (by omega) 0 (by omega)
  obtain ⟨x14, hx14⟩ : ∃ x, x = (rnum B 1 r14.s).1 := ⟨_, rfl⟩
  rw [← hx14] at hk14
  have e14 := wrap_i64 (n := x14) (Nat.lt_of_lt_of_le (by rw [hx14]; exact rnum_lt B 1 _) (by decide))
  have hy14 : x14 < 256 := by rw [hx14]; exact rnum_lt B 1 _
  have HC14 := Lib.hid hk14
  have HX14 := Lib.hid hx14
  clear hk14 hx14
  go_upto_region 17 with (first | (go_at_call 44; refine HC14.out.mono ?_; rintro e v14 ⟨rfl, rt, _, fz, u14, cu⟩; have HN14 := Lib.hid rt; clear rt) | fail)
  refine grab_world fun W15 hW15 => ?_
  obtain ⟨r15, hr15⟩ : ∃ r : RS, r = { r14 with ns := x14, s := (rnum B 1 r14.s).2 } := ⟨_, rfl⟩
  have hT15 : RT w C A c B S r15.t r15.s nilv nilv nilv W15 := by rw [hW15, hr15]; exact HN14.out
  have HR15 := Lib.hid (show r15 = rk B s 15 by rw [hr15, HX14.out, HR14.out]; rfl)
  have HT15 := Lib.hid hT15
  have HY14 := Lib.hid (And.intro (show r15.ns = x14 by rw [hr15]) hy14)
  have HY13_14 := Lib.hid (show r15.np = x13 by rw [hr15]; exact HY13.out.1)
  clear hT15 hW15 HC14 HN14 HT14 fz cu e14 hy14 hr15 HR14 HX14
  -- 15: ('c', 'nt')
  have hk15 := HT15.out.num 1 (by omega) 0 (by omega)
  obtain ⟨x15, hx15⟩ : ∃ x, x = (rnum B 1 r15.s).1 := ⟨_, rfl⟩
  rw [← hx15] at hk15
  have e15 := wrap_i64 (n := x15) (Nat.lt_of_lt_of_le (by rw [hx15]; exact rnum_lt B 1 _) (by decide))
  have hy15 : x15 < 256 := by rw [hx15]; exact rnum_lt B 1 _
  have HC15 := Lib.hid hk15
  have HX15 := Lib.hid hx15
  clear hk15 hx15
  go_upto_region 18 with (first | (go_at_call 44; refine HC15.out.mono ?_; rintro e v15 ⟨rfl, rt, _, fz, u15, cu⟩; have HN15 := Lib.hid rt; clear rt) | fail)
  refine grab_world fun W16 hW16 => ?_
  obtain ⟨r16, hr16⟩ : ∃ r : RS, r = { r15 with nt := x15, s := (rnum B 1 r15.s).2 } := ⟨_, rfl⟩
  have hT16 : RT w C A c B S r16.t r16.s nilv nilv nilv W16 := by rw [hW16, hr16]; exact HN15.out
  have HR16 := Lib.hid (show r16 = rk B s 16 by rw [hr16, HX15.out, HR15.out]; rfl)
  have HT16 := Lib.hid hT16
  have HY15 := Lib.hid (And.intro (show r16.nt = x15 by rw [hr16]) hy15)
  have HY13_15 := Lib.hid (show r16.np = x13 by rw [hr16]; exact HY13_14.out)
  have HY14_15 := Lib.hid (show r16.ns = x14 by rw [hr16]; exact HY14.out.1)
  clear hT16 hW16 HC15 HN15 HT15 fz cu e15 hy15 hr16 HR15 HX15
  -- the pool
  have hx13 := HY13.out.2
  go_wp2
  go_loopw [7] (fun i wr => ∃ (j : Nat) (acc : List Nat) (s' : St) (v : Value), i = .int .i64 j ∧ j ≤ x13 ∧ acc.length ≤ j ∧ rmany (rnum B 4) x13 r16.s = (acc ++ (rmany (rnum B 4) (x13 - j) s').1, (rmany (rnum B 4) (x13 - j) s').2) ∧
    RT w C A c B S r16.t s' v nilv nilv wr ∧ wr.ownsRow (w.heap.size + 2) 24 1 v acc.length (numCells acc)) (fun i _ => x13 - (intOf i).toNat)
  case atStart => exact ⟨0, [], r16.s, nilv, rfl, by omega, by simp, by simp, HT16.out, ⟨rfl, .inl ⟨rfl, rfl⟩⟩⟩
  case round =>
    obtain ⟨j, acc, s', v, rfl, hj, hacc, hsp, hrt, hown⟩ := hrel
    have d2 := blk_cell hrt.rd 2
    simp at d2
    by_cases hlt : j < x13
    · have p1 : (0:Int) ≤ j := by omega
      have p2 : (j:Int) < x13 := by omega
      obtain ⟨at_, sh⟩ := s'
      cases sh
      · have hc1 := (hrt.keep (F := No) ((Mod.refl No wr).drew) (fun _ f => f.elim)).num 4 (by omega) 23 (by omega)
        have hnx : x13 - j = (x13 - (j + 1)) + 1 := by omega
        rw [hnx, rmany_step _ _ rfl] at hsp
        obtain ⟨y, hy⟩ : ∃ y, y = (rnum B 4 (at_, false)).1 := ⟨_, rfl⟩
        obtain ⟨s2, hs2⟩ : ∃ s2, s2 = (rnum B 4 (at_, false)).2 := ⟨_, rfl⟩
        have wy := wrap_u32 (n := y) (by rw [hy]; exact rnum_lt B 4 _)
        rw [← hy, ← hs2] at hc1 hsp
        have dT : wr.cell? ⟨w.heap.size + 1, 23, none⟩ = some v := (blk_cell hrt.ten 23).trans rfl
        have hob : ∀ k, v.ownBlock = some k → w.heap.size + 2 ≤ k := by
          intro k hk
          rcases hown.2 with ⟨rfl, _⟩ | ⟨g, cap, cur, rfl, hg, _⟩
          · simp [Value.ownBlock] at hk
          · obtain rfl : g = k := by simpa [Value.ownBlock] using hk
            exact hg
        have hClt := hrt.Clt
        have hc1' := hc1.mono (R' := fun e w' => ∃ v1, e = .returned v1 ∧ (v1 = .int .u64 (y : Nat) ∧ RT w C A c B S r16.t s2 v nilv nilv w' ∧ Mod (fun b => b = C) wr.drew w' ∧ w'.frozen? ⟨w.heap.size + 1, 23, none⟩ = false ∧ ∃ u, w'.cell? ⟨w.heap.size + 1, 23, none⟩ = some u)) (fun e w' h => ⟨_, h.1, rfl, h.2⟩)
        have HC1 := Lib.hid hc1'
        clear hc1'
        have HR := Lib.hid (And.intro hsp (And.intro hown (And.intro hob (And.intro hClt hrt))))
        have hacc8 : acc.length ≤ 1000 := by omega
        have HA8 := Lib.hid hacc8
        obtain ⟨i0, hi, hz0, hz1, hz2⟩ := info_parts infou32
        clear hc1 hsp hy hs2 hown hob hClt hacc8 hrt
        go_wp2_with fail
        go_region_law (first
          | (refine step_append_lies _ (by rfl) _ _ 27 (by rfl) (w.heap.size + 2) 24 i0 _ 1 4 Tryz.underlying27 hi hz0 hz1 hz2 (by rfl) (by decide) v acc.length (numCells acc) (by rfl) ?_ _ _ _ ((fun (n : Nat) => [Value.int .u32 (n : Int)]) y) (by rfl) (by rfl) ?_ (by simp [Value.oneCell']) (by decide) ?_ ?_ ?_ _ (by rfl) ?_;
             (exact own_mod H5.out.2.1 (by repeat (first | with_reducible exact Mod.refl _ _ | refine Mod.alloc ?_ _ | refine Mod.drew ?_)) (fun _ _ f => f));
             (exact World.news_of_block (at10 _ _));
             (have := HA8.out; unfold maxLen; omega);
             (have := HA8.out; omega);
             (have := H5.out.1.sz; simp; omega);
             intro g cap w6 own6 gr6 hat6 hlt6;
             have m6 : Mod (fun b => v.ownBlock = some b) w5 w6 := Mod.grown (((Mod.refl _ w5)).mono (fun _ f => f) |> (fun h => by repeat (first | with_reducible exact h | refine Mod.alloc ?_ _ | refine Mod.drew ?_))) gr6 (fun k hk => .inr hk);
             have rt6 := H5.out.1.keep m6 (fun b f => HR.out.2.2.1 b f); have fT6 := blk_free rt6.ten 23; have dT6 : w6.cell? ⟨w.heap.size + 1, 23, none⟩ = some v := (blk_cell rt6.ten 23).trans rfl; have H6 := Lib.hid (And.intro own6 rt6); clear own6 m6 hat6 gr6 rt6)
          | (refine step_calls_at (by rfl) ?_ HC1.out ?_; go_simp; rintro v5 w5 ⟨rfl, rt, m5, fT5, u5', cT5⟩; have dT5 : w5.cell? ⟨w.heap.size + 1, 23, none⟩ = some v := (blk_cell rt.ten 23).trans rfl; have lT5 : w.heap.size + 1 < w5.heap.size := (by have := rt.sz; omega);
             have hown5 : w5.ownsRow (w.heap.size + 2) 24 1 v acc.length (numCells acc) := own_mod (own_mod HR.out.2.1 ((Mod.refl No wr).drew) (fun _ _ f => f)) m5 (fun k hk f => by have := HR.out.2.2.1 k hk; have := HR.out.2.2.2.1; omega); have H5 := Lib.hid (And.intro rt (And.intro hown5 m5)); clear rt hown5 m5 cT5))
        all_goals
          go_wp2
          refine ⟨⟨j + 1, acc ++ [y], s2, .slice (some ⟨g, 0, none⟩) (acc.length + 1) cap, by go_num, by omega, by simp; omega, ?_, ?_, ?_⟩, by simp [intOf]; omega⟩
          · rw [HR.out.1]; simp
          · exact H6.out.2.set 23 _ rfl rfl
          · refine own_mod (F := fun b => b = w.heap.size + 1) ?_ (Mod.setCell (p := ⟨w.heap.size + 1, 23, none⟩) (Mod.refl (fun b => b = w.heap.size + 1) w6) (.inr rfl) _) (fun k hk f => ?_)
            · have := H6.out.1
              simpa [numCells] using this
            · subst f
              rcases H6.out.1.2 with ⟨h, _⟩ | ⟨g', cap', cur', h, hg', _⟩
              · simp at h
              · have e1 : g = g' := by simpa [Value.ownBlock] using (congrArg (fun v => v.ownBlock) h)
                have e2 : g = w.heap.size + 1 := by simpa [Value.ownBlock] using hk
                omega

      · obtain ⟨s', hs'⟩ : ∃ s' : St, s' = (at_, true) := ⟨_, rfl⟩
        have hp : rmany (rnum B 4) x13 r16.s = (acc, s') := by rw [hsp, rmany_short (rnum B 4) (x13 - j) (s := (at_, true)) rfl, hs']; simp
        have hrt : RT w C A c B S r16.t s' v nilv nilv wr := by rw [hs']; exact hrt
        clear hs'
        go_upto_region 22 with fail
        have HPP := Lib.hid hp
        obtain ⟨P, p, hv, hrw⟩ := own_rowAt hown
        obtain ⟨r17, hr17⟩ : ∃ r : RS, r = { r16 with t := { r16.t with pool := acc }, s := s' } := ⟨_, rfl⟩
        have HR17 := Lib.hid (show r17 = rk B s 17 by
          rw [show rk B s 17 = (fun r : RS => ({ r with t := { r.t with pool := (rmany (rnum B 4) r.np r.s).1 }, s := (rmany (rnum B 4) r.np r.s).2 } : RS)) (rk B s 16) from rfl, ← HR16.out, hr17]
          simp only [HY13_15.out, hp])
        have hT17 : RT w C A c B S r17.t r17.s v nilv nilv wr := by rw [hr17]; exact hrt.retag rfl
        have HV17 := Lib.hid (And.intro (show r17.t.pool = acc by rw [hr17]) (And.intro (show r17.ns = x14 by rw [hr17]; exact HY14_15.out) (And.intro (show r17.nt = x15 by rw [hr17]; exact HY15.out.1) hv)))
        have hk17 := hT17.prs x14 (by have := HY14.out.2; omega) 27 (by omega)
        obtain ⟨l17, hl17⟩ : ∃ l, l = (rmany (rpr B) x14 r17.s).1 := ⟨_, rfl⟩
        rw [← hl17] at hk17
        have HC17 := Lib.hid hk17
        have HL17 := Lib.hid hl17
        have HRW17 := Lib.hid hrw
        have HCl := Lib.hid hT17.Clt
        clear hl17 hk17 hT17 hr17 hv hrw hown hrt hsp hp d2
        go_upto_region 23 with (first | (go_at_call 59; refine HC17.out.mono ?_; rintro e v17 ⟨P2, p2, rfl, rw2, rt, m, fz, u17, cu⟩; have HN17 := Lib.hid (And.intro rt (And.intro rw2 m)); clear rt rw2 m) | fail)
        refine grab_world fun W18 hW18 => ?_
        obtain ⟨r18, hr18⟩ : ∃ r : RS, r = { r17 with t := { r17.t with statics := l17 }, s := (rmany (rpr B) x14 r17.s).2 } := ⟨_, rfl⟩
        have HR18 := Lib.hid (show r18 = rk B s 18 by
          rw [show rk B s 18 = (fun r : RS => ({ r with t := { r.t with statics := (rmany (rpr B) r.ns r.s).1 }, s := (rmany (rpr B) r.ns r.s).2 } : RS)) (rk B s 17) from rfl, ← HR17.out, hr18, HL17.out]
          simp only [HV17.out.2.1])
        have hT18 : RT w C A c B S r18.t r18.s v (.slice P2 l17.length p2) nilv W18 := by rw [hW18, hr18]; exact HN17.out.1.set 27 _ rfl rfl
        have hm18 : Mod (fun b => b < w.heap.size + 2) wr W18 := by
          have := HCl.out
          rw [hW18]; exact Mod.setCell (HN17.out.2.2.mono (fun b f => by omega)) (.inr (by simp)) _
        have hm18' : Mod (fun b => b < w.heap.size + 2) v17 W18 := by
          rw [hW18]; exact Mod.setCell (Mod.refl _ _) (.inr (by simp)) _
        have hrA := HRW17.out.keeps (hm18.keeps (fun b _ hb f => by omega))
        have hrB := HN17.out.2.1.keeps (hm18'.keeps (fun b _ hb f => by omega))
        have HV18 := Lib.hid (And.intro (show r18.t.pool = acc by rw [hr18]; exact HV17.out.1) (And.intro (show r18.t.statics = l17 by rw [hr18]) (And.intro (show r18.nt = x15 by rw [hr18]; exact HV17.out.2.2.1) HV17.out.2.2.2)))
        have hk18 := hT18.prs x15 (by have := HY15.out.2; omega) 28 (by omega)
        obtain ⟨l18, hl18⟩ : ∃ l, l = (rmany (rpr B) x15 r18.s).1 := ⟨_, rfl⟩
        rw [← hl18] at hk18
        have HC18 := Lib.hid hk18
        have HL18 := Lib.hid hl18
        have HRW18 := Lib.hid (And.intro hrA hrB)
        clear hl18 hk18 hT18 hr18 hm18 hm18' hrA hrB HC17 HN17 fz cu hW18 HRW17
        go_upto_region 24 with (first | (go_at_call 59; refine HC18.out.mono ?_; rintro e v18 ⟨P3, p3, rfl, rw3, rt, m, fz, u18, cu⟩; have HN18 := Lib.hid (And.intro rt (And.intro rw3 m)); clear rt rw3 m) | fail)
        refine grab_world fun W19 hW19 => ?_
        obtain ⟨r19, hr19⟩ : ∃ r : RS, r = { r18 with t := { r18.t with twices := l18 }, s := (rmany (rpr B) x15 r18.s).2 } := ⟨_, rfl⟩
        have HR19 := Lib.hid (show r19 = rk B s 19 by
          rw [show rk B s 19 = (fun r : RS => ({ r with t := { r.t with twices := (rmany (rpr B) r.nt r.s).1 }, s := (rmany (rpr B) r.nt r.s).2 } : RS)) (rk B s 18) from rfl, ← HR18.out, hr19, HL18.out]
          simp only [HV18.out.2.2.1])
        have hT19 : RT w C A c B S r19.t r19.s v (.slice P2 l17.length p2) (.slice P3 l18.length p3) W19 := by rw [hW19, hr19]; exact HN18.out.1.set 28 _ rfl rfl
        have hm19 : Mod (fun b => b < w.heap.size + 2) W18 W19 := by
          have := HCl.out
          rw [hW19]; exact Mod.setCell (HN18.out.2.2.mono (fun b f => by omega)) (.inr (by simp)) _
        have hm19' : Mod (fun b => b < w.heap.size + 2) v18 W19 := by
          rw [hW19]; exact Mod.setCell (Mod.refl _ _) (.inr (by simp)) _
        have hrA := HRW18.out.1.keeps (hm19.keeps (fun b _ hb f => by omega))
        have hrB := HRW18.out.2.keeps (hm19.keeps (fun b _ hb f => by omega))
        have hrC := HN18.out.2.1.keeps (hm19'.keeps (fun b _ hb f => by omega))
        obtain ⟨x, hx⟩ : ∃ x : TV, x = ⟨r19.t, v, .slice P2 l17.length p2, .slice P3 l18.length p3⟩ := ⟨_, rfl⟩
        have hrows : x.Rows (fun b => w.heap.size + 2 ≤ b) W19 := by
          rw [hx]
          refine ⟨P, p, P2, p2, P3, p3, ?_, ?_, ?_, ?_, ?_, ?_⟩
          · rw [HV18.out.2.2.2, hr19]; simp only; rw [HV18.out.1]
          · rw [hr19]; simp only; rw [HV18.out.2.1]
          · rw [hr19]
          · rw [hr19]; simp only; rw [HV18.out.1]; exact hrA
          · rw [hr19]; simp only; rw [HV18.out.2.1]; exact hrB
          · rw [hr19]; exact hrC
        obtain ⟨CA, hCA⟩ : ∃ CA, CA = x.cells.toArray := ⟨_, rfl⟩
        have hCs : CA.size = 33 := by rw [hCA]; rfl
        have hTn : W19.heap[w.heap.size + 1]? = some (.cells CA 31 (0, 0)) := by rw [hCA, hx]; exact hT19.ten
        have hld := tenLoad_run hTn hCs
        have hst := tenStore_row (CA := CA) hT19.res rfl hCs (by rw [hCA]; exact TV.one hrows)
        have hres := setRow_heap W19 w.heap.size _ CA _ _ hT19.res
        have H19 := Lib.hid (And.intro hrows (And.intro hT19 (And.intro hCA (And.intro hCs (And.intro hres hx)))))
        clear hrows hT19 hCA hCs hTn hres hr19 hm19 hm19' hrA hrB hrC HC18 HN18 fz cu hW19 HRW18 hx
        go_wp2
        refine bodyPost_ret (results_cell_row rfl _ _ w.heap.size 31 CA (0, 0) _ rfl H19.out.2.2.2.2.1 Tryz.underlying31 rfl (by rw [tenSize, H19.out.2.2.2.1])) rfl ?_
        obtain ⟨k1, k2, k3, k4, k5, k6⟩ := H19.out
        refine ⟨x, by rw [k3], by rw [k6]; show r19.t = _; rw [HR19.out]; rfl, ?_, ?_, ?_⟩
        · exact (k1.keeps ((setRow_mod CA).keeps (fun b _ hb f => by omega))).imp (fun b hb => by omega)
        · have h1 := HCl.out
          have h2 := (setRow_mod (w := W19) (g := w.heap.size) CA).obj k2.rd (by omega)
          rw [HR19.out] at h2
          exact h2
        · exact k2.mod.trans' (setRow_mod CA) (fun i hi f => by omega)
    · obtain rfl : x13 = j := by omega
      have hp : rmany (rnum B 4) x13 r16.s = (acc, s') := by rw [hsp, Nat.sub_self]; simp [rmany]
      go_upto_region 22 with fail
      have HPP := Lib.hid hp
      obtain ⟨P, p, hv, hrw⟩ := own_rowAt hown
      obtain ⟨r17, hr17⟩ : ∃ r : RS, r = { r16 with t := { r16.t with pool := acc }, s := s' } := ⟨_, rfl⟩
      have HR17 := Lib.hid (show r17 = rk B s 17 by
        rw [show rk B s 17 = (fun r : RS => ({ r with t := { r.t with pool := (rmany (rnum B 4) r.np r.s).1 }, s := (rmany (rnum B 4) r.np r.s).2 } : RS)) (rk B s 16) from rfl, ← HR16.out, hr17]
        simp only [HY13_15.out, hp])
      have hT17 : RT w C A c B S r17.t r17.s v nilv nilv wr := by rw [hr17]; exact hrt.retag rfl
      have HV17 := Lib.hid (And.intro (show r17.t.pool = acc by rw [hr17]) (And.intro (show r17.ns = x14 by rw [hr17]; exact HY14_15.out) (And.intro (show r17.nt = x15 by rw [hr17]; exact HY15.out.1) hv)))
      have hk17 := hT17.prs x14 (by have := HY14.out.2; omega) 27 (by omega)
      obtain ⟨l17, hl17⟩ : ∃ l, l = (rmany (rpr B) x14 r17.s).1 := ⟨_, rfl⟩
      rw [← hl17] at hk17
      have HC17 := Lib.hid hk17
      have HL17 := Lib.hid hl17
      have HRW17 := Lib.hid hrw
      have HCl := Lib.hid hT17.Clt
      clear hl17 hk17 hT17 hr17 hv hrw hown hrt hsp hp d2
      go_upto_region 23 with (first | (go_at_call 59; refine HC17.out.mono ?_; rintro e v17 ⟨P2, p2, rfl, rw2, rt, m, fz, u17, cu⟩; have HN17 := Lib.hid (And.intro rt (And.intro rw2 m)); clear rt rw2 m) | fail)
      refine grab_world fun W18 hW18 => ?_
      obtain ⟨r18, hr18⟩ : ∃ r : RS, r = { r17 with t := { r17.t with statics := l17 }, s := (rmany (rpr B) x14 r17.s).2 } := ⟨_, rfl⟩
      have HR18 := Lib.hid (show r18 = rk B s 18 by
        rw [show rk B s 18 = (fun r : RS => ({ r with t := { r.t with statics := (rmany (rpr B) r.ns r.s).1 }, s := (rmany (rpr B) r.ns r.s).2 } : RS)) (rk B s 17) from rfl, ← HR17.out, hr18, HL17.out]
        simp only [HV17.out.2.1])
      have hT18 : RT w C A c B S r18.t r18.s v (.slice P2 l17.length p2) nilv W18 := by rw [hW18, hr18]; exact HN17.out.1.set 27 _ rfl rfl
      have hm18 : Mod (fun b => b < w.heap.size + 2) wr W18 := by
        have := HCl.out
        rw [hW18]; exact Mod.setCell (HN17.out.2.2.mono (fun b f => by omega)) (.inr (by simp)) _
      have hm18' : Mod (fun b => b < w.heap.size + 2) v17 W18 := by
        rw [hW18]; exact Mod.setCell (Mod.refl _ _) (.inr (by simp)) _
      have hrA := HRW17.out.keeps (hm18.keeps (fun b _ hb f => by omega))
      have hrB := HN17.out.2.1.keeps (hm18'.keeps (fun b _ hb f => by omega))
      have HV18 := Lib.hid (And.intro (show r18.t.pool = acc by rw [hr18]; exact HV17.out.1) (And.intro (show r18.t.statics = l17 by rw [hr18]) (And.intro (show r18.nt = x15 by rw [hr18]; exact HV17.out.2.2.1) HV17.out.2.2.2)))
      have hk18 := hT18.prs x15 (by have := HY15.out.2; omega) 28 (by omega)
      obtain ⟨l18, hl18⟩ : ∃ l, l = (rmany (rpr B) x15 r18.s).1 := ⟨_, rfl⟩
      rw [← hl18] at hk18
      have HC18 := Lib.hid hk18
      have HL18 := Lib.hid hl18
      have HRW18 := Lib.hid (And.intro hrA hrB)
      clear hl18 hk18 hT18 hr18 hm18 hm18' hrA hrB HC17 HN17 fz cu hW18 HRW17
      go_upto_region 24 with (first | (go_at_call 59; refine HC18.out.mono ?_; rintro e v18 ⟨P3, p3, rfl, rw3, rt, m, fz, u18, cu⟩; have HN18 := Lib.hid (And.intro rt (And.intro rw3 m)); clear rt rw3 m) | fail)
      refine grab_world fun W19 hW19 => ?_
      obtain ⟨r19, hr19⟩ : ∃ r : RS, r = { r18 with t := { r18.t with twices := l18 }, s := (rmany (rpr B) x15 r18.s).2 } := ⟨_, rfl⟩
      have HR19 := Lib.hid (show r19 = rk B s 19 by
        rw [show rk B s 19 = (fun r : RS => ({ r with t := { r.t with twices := (rmany (rpr B) r.nt r.s).1 }, s := (rmany (rpr B) r.nt r.s).2 } : RS)) (rk B s 18) from rfl, ← HR18.out, hr19, HL18.out]
        simp only [HV18.out.2.2.1])
      have hT19 : RT w C A c B S r19.t r19.s v (.slice P2 l17.length p2) (.slice P3 l18.length p3) W19 := by rw [hW19, hr19]; exact HN18.out.1.set 28 _ rfl rfl
      have hm19 : Mod (fun b => b < w.heap.size + 2) W18 W19 := by
        have := HCl.out
        rw [hW19]; exact Mod.setCell (HN18.out.2.2.mono (fun b f => by omega)) (.inr (by simp)) _
      have hm19' : Mod (fun b => b < w.heap.size + 2) v18 W19 := by
        rw [hW19]; exact Mod.setCell (Mod.refl _ _) (.inr (by simp)) _
      have hrA := HRW18.out.1.keeps (hm19.keeps (fun b _ hb f => by omega))
      have hrB := HRW18.out.2.keeps (hm19.keeps (fun b _ hb f => by omega))
      have hrC := HN18.out.2.1.keeps (hm19'.keeps (fun b _ hb f => by omega))
      obtain ⟨x, hx⟩ : ∃ x : TV, x = ⟨r19.t, v, .slice P2 l17.length p2, .slice P3 l18.length p3⟩ := ⟨_, rfl⟩
      have hrows : x.Rows (fun b => w.heap.size + 2 ≤ b) W19 := by
        rw [hx]
        refine ⟨P, p, P2, p2, P3, p3, ?_, ?_, ?_, ?_, ?_, ?_⟩
        · rw [HV18.out.2.2.2, hr19]; simp only; rw [HV18.out.1]
        · rw [hr19]; simp only; rw [HV18.out.2.1]
        · rw [hr19]
        · rw [hr19]; simp only; rw [HV18.out.1]; exact hrA
        · rw [hr19]; simp only; rw [HV18.out.2.1]; exact hrB
        · rw [hr19]; exact hrC
      obtain ⟨CA, hCA⟩ : ∃ CA, CA = x.cells.toArray := ⟨_, rfl⟩
      have hCs : CA.size = 33 := by rw [hCA]; rfl
      have hTn : W19.heap[w.heap.size + 1]? = some (.cells CA 31 (0, 0)) := by rw [hCA, hx]; exact hT19.ten
      have hld := tenLoad_run hTn hCs
      have hst := tenStore_row (CA := CA) hT19.res rfl hCs (by rw [hCA]; exact TV.one hrows)
      have hres := setRow_heap W19 w.heap.size _ CA _ _ hT19.res
      have H19 := Lib.hid (And.intro hrows (And.intro hT19 (And.intro hCA (And.intro hCs (And.intro hres hx)))))
      clear hrows hT19 hCA hCs hTn hres hr19 hm19 hm19' hrA hrB hrC HC18 HN18 fz cu hW19 HRW18 hx
      go_wp2
      refine bodyPost_ret (results_cell_row rfl _ _ w.heap.size 31 CA (0, 0) _ rfl H19.out.2.2.2.2.1 Tryz.underlying31 rfl (by rw [tenSize, H19.out.2.2.2.1])) rfl ?_
      obtain ⟨k1, k2, k3, k4, k5, k6⟩ := H19.out
      refine ⟨x, by rw [k3], by rw [k6]; show r19.t = _; rw [HR19.out]; rfl, ?_, ?_, ?_⟩
      · exact (k1.keeps ((setRow_mod CA).keeps (fun b _ hb f => by omega))).imp (fun b hb => by omega)
      · have h1 := HCl.out
        have h2 := (setRow_mod (w := W19) (g := w.heap.size) CA).obj k2.rd (by omega)
        rw [HR19.out] at h2
        exact h2
      · exact k2.mod.trans' (setRow_mod CA) (fun i hi f => by omega)
end

section
attribute [local go_sem] stPair gtPair gtK8 gtM6 run_store_func
attribute [local go_sem high] neqPair eqK8 eqM6
attribute [local go_sem ↓] load_fold store_fold alloc_fold slice_op_fold con_load_fold chg_load_fold ten_zero_fold con_alloc_fold con_store_fold con_zero_fold chg_alloc_fold chg_store_fold chg_zero_fold chg_put_fold macLoad_fold macStore_fold keyLoad_fold keyStore_fold
open Go.RowKit
set_option linter.unusedVariables false
set_option linter.unusedSimpArgs false
/-- The state of the reference's 'OpenConfig': the result's block, the reader's, the settings', the first that are new. -/
structure RK (w : World) (A : Option Addr) (c : Nat) (B : List UInt8) (cc : Con) (s : St) (vt : Value) (W : World) : Prop where
  rd : W.heap[w.heap.size + 1]? = some (rrObj A B.length c s.1 s.2)
  le : s.1 ≤ B.length
  con : W.heap[w.heap.size + 2]? = some (.cells (cc.cells vt) 36 (0, 0))
  res : W.heap[w.heap.size]? = some (.cells zCon 36 (0, 0))
  row : RowAt (fun b => b < w.heap.size) W A (bcells B)
  mod : Mod No w W
  sz : w.heap.size + 3 ≤ W.heap.size
  hc : B.length ≤ c
  hB : B.length ≤ 100000000
section
variable {w : World} {A : Option Addr} {c : Nat} {B : List UInt8} {cc : Con} {s : St} {vt : Value} {W : World}
theorem RK.call (h : RK w A c B cc s vt W) {W' : World} (hm : Mod (fun b => b = w.heap.size + 1) W W') {s' : St} (hrd : W'.heap[w.heap.size + 1]? = some (rrObj A B.length c s'.1 s'.2)) (hle : s'.1 ≤ B.length) : RK w A c B cc s' vt W' :=
  ⟨hrd, hle, hm.obj h.con (by omega), hm.obj h.res (by omega), h.row.keeps (hm.keeps (fun b _ hb f => by omega)), h.mod.trans' hm (fun i hi f => by omega), Nat.le_trans h.sz hm.size, h.hc, h.hB⟩
theorem RK.keep (h : RK w A c B cc s vt W) {W' : World} {F : Nat → Prop} (hm : Mod F W W') (hF : ∀ b, F b → w.heap.size + 3 ≤ b) : RK w A c B cc s vt W' := by
  refine ⟨hm.obj h.rd (fun f => ?_), h.le, hm.obj h.con (fun f => ?_), hm.obj h.res (fun f => ?_), h.row.keeps (hm.keeps (fun b _ hb f => ?_)), h.mod.trans' hm (fun i hi f => ?_), Nat.le_trans h.sz hm.size, h.hc, h.hB⟩ <;> (have := hF _ f; omega)
theorem RK.into (h : RK w A c B cc s vt W) {W' : World} (hm : Mod (fun b => b = w.heap.size + 2) W W') {cc' : Con} {s' : St} {vt' : Value} (ht : W'.heap[w.heap.size + 2]? = some (.cells (cc'.cells vt') 36 (0, 0))) (hs : s' = s) : RK w A c B cc' s' vt' W' := by
  subst hs
  exact ⟨hm.obj h.rd (by omega), h.le, ht, hm.obj h.res (by omega), h.row.keeps (hm.keeps (fun b _ hb f => by omega)), h.mod.trans' hm (fun i hi f => by omega), Nat.le_trans h.sz hm.size, h.hc, h.hB⟩
theorem RK.set (h : RK w A c B cc s vt W) (o : Nat) (V : Value) {cc' : Con} {s' : St} {vt' : Value} (he : (cc.cells vt).setIfInBounds o V = cc'.cells vt') (hs : s' = s) : RK w A c B cc' s' vt' (W.setCell ⟨w.heap.size + 2, o, none⟩ V) :=
  h.into (Mod.setCell (p := ⟨w.heap.size + 2, o, none⟩) (Mod.refl (fun b => b = w.heap.size + 2) W) (.inr rfl) V) (by rw [heap_setCell_row h.con, he]) hs
theorem RK.spl (h : RK w A c B cc s vt W) (o : Nat) (xs : List Value) {cc' : Con} {s' : St} {vt' : Value} (he : (splice (cc.cells vt).toList o xs).toArray = cc'.cells vt') (hs : s' = s) : RK w A c B cc' s' vt' (W.setRow (w.heap.size + 2) (splice (cc.cells vt).toList o xs).toArray) :=
  h.into (setRow_mod _) (by rw [setRow_heap _ _ _ _ _ _ h.con, he]) hs
theorem RK.cell (h : RK w A c B cc s vt W) (o : Nat) (ho : o < 29) : W.frozen? ⟨w.heap.size + 2, o, none⟩ = false ∧ ∃ u, W.cell? ⟨w.heap.size + 2, o, none⟩ = some u :=
  ⟨blk_free h.con o, _, (blk_cell h.con o).trans (Array.getElem?_eq_getElem (by rw [con_size]; exact ho))⟩
theorem RK.num (h : RK w A c B cc s vt W) (k : Nat) (hk : k ≤ 7) (o : Nat) (ho : o < 29) : Calls Tryz.prog 44 #[.pointer (some ⟨w.heap.size + 1, 0, none⟩), .int .i64 k] W fun e w' => e = .returned (.int .u64 ((rnum B k s).1 : Nat)) ∧ RK w A c B cc (rnum B k s).2 vt w' ∧ w'.frozen? ⟨w.heap.size + 2, o, none⟩ = false ∧ ∃ u, w'.cell? ⟨w.heap.size + 2, o, none⟩ = some u := by
  refine (rr_n B h.rd h.row h.le h.hc h.hB k hk (by omega)).mono ?_
  rintro e w' ⟨he, hb, hm⟩
  have h' := h.call hm hb (rnum_le B k s h.le)
  exact ⟨he, h', h'.cell o ho⟩
theorem RK.mac (h : RK w A c B cc s vt W) (o : Nat) (ho : o + 6 ≤ 29) : Calls Tryz.prog 47 #[.pointer (some ⟨w.heap.size + 1, 0, none⟩)] W fun e w' => e = .returned (.agg (bcells (M6.of (rtake B s 6).1).l).toArray) ∧ RK w A c B cc (rtake B s 6).2 vt w' ∧
    (macStore (.pointer (some ⟨w.heap.size + 2, o, none⟩)) (.agg (bcells (M6.of (rtake B s 6).1).l).toArray)).run Tryz.prog w' = .ok () (w'.setRow (w.heap.size + 2) (splice (cc.cells vt).toList o (bcells (M6.of (rtake B s 6).1).l)).toArray) := by
  refine (rr_mac B h.rd h.row h.le h.hc h.hB (by omega)).mono ?_
  rintro e w' ⟨he, hb, hm⟩
  have h' := h.call hm hb (rtake_le B s 6 h.le)
  exact ⟨he, h', macStore_run _ h'.con (by rw [con_size]; exact ho)⟩
theorem RK.key (h : RK w A c B cc s vt W) (o : Nat) (ho : o + 8 ≤ 29) : Calls Tryz.prog 48 #[.pointer (some ⟨w.heap.size + 1, 0, none⟩)] W fun e w' => e = .returned (.agg (bcells (K8.of (rtake B s 8).1).l).toArray) ∧ RK w A c B cc (rtake B s 8).2 vt w' ∧
    (keyStore (.pointer (some ⟨w.heap.size + 2, o, none⟩)) (.agg (bcells (K8.of (rtake B s 8).1).l).toArray)).run Tryz.prog w' = .ok () (w'.setRow (w.heap.size + 2) (splice (cc.cells vt).toList o (bcells (K8.of (rtake B s 8).1).l)).toArray) := by
  refine (rr_key B h.rd h.row h.le h.hc h.hB (by omega)).mono ?_
  rintro e w' ⟨he, hb, hm⟩
  have h' := h.call hm hb (rtake_le B s 8 h.le)
  exact ⟨he, h', keyStore_run _ h'.con (by rw [con_size]; exact ho)⟩
theorem RK.ten (h : RK w A c B cc s vt W) : Calls Tryz.prog 45 #[.pointer (some ⟨w.heap.size + 1, 0, none⟩)] W fun e w' => ∃ x : TV, e = .returned (.agg x.cells.toArray) ∧ x.t = (rten B s).1 ∧ x.Rows (fun b => W.heap.size ≤ b) w' ∧ RK w A c B cc (rten B s).2 vt w' ∧ Mod (fun b => b = w.heap.size + 1) W w' := by
  refine (rr_tenant B h.rd h.row h.le h.hc h.hB (by omega) (fun b hb => by have := h.sz; omega)).mono ?_
  rintro e w' ⟨x, he, hx, hr, hb, hm⟩
  exact ⟨x, he, hx, hr, h.call hm hb (rten_le B s h.le), hm⟩
end
end

section
attribute [local go_sem] stPair gtPair gtK8 gtM6 run_store_func
attribute [local go_sem high] neqPair eqK8 eqM6
attribute [local go_sem ↓] load_fold store_fold alloc_fold slice_op_fold con_load_fold chg_load_fold ten_zero_fold con_alloc_fold con_store_fold con_zero_fold chg_alloc_fold chg_store_fold chg_zero_fold chg_put_fold macLoad_fold macStore_fold keyLoad_fold keyStore_fold
open Go.RowKit
set_option linter.unusedVariables false
set_option linter.unusedSimpArgs false
set_option maxRecDepth 100000 in
set_option maxHeartbeats 4000000 in
theorem refOpenConfig_ok {w : World} {A : Option Addr} {c : Nat} (B : List UInt8) (hrow : RowAt (fun b => b < w.heap.size) w A (bcells B)) (hc : B.length ≤ c) (hB : B.length ≤ 100000000) :
    Calls Tryz.prog 22 #[.slice A B.length c] w (OpenConP (ocf B) w) := by
  obtain ⟨s, hs⟩ : ∃ s : St, s = (0, false) := ⟨_, rfl⟩
  have hT0 : RK w A c B .zero s nilv (((w.alloc (.cells zCon 36)).alloc (.cells #[.slice A B.length c, .int .i64 0, .bool false] 92)).alloc (.cells zCon 36)) := by
    have hm : Mod No w (((w.alloc (.cells zCon 36)).alloc (.cells #[.slice A B.length c, .int .i64 0, .bool false] 92)).alloc (.cells zCon 36)) := (((Mod.refl _ _).alloc _).alloc _).alloc _
    exact ⟨by rw [hs]; exact at31 w _ _ _, by rw [hs]; exact Nat.zero_le _, at32 w _ _ _, at30 w _ _ _, hrow.keeps (hm.keeps (fun _ _ _ f => f)), hm, by simp, hc, hB⟩
  have HTZ := Lib.hid hT0
  have hal := conAlloc_run
  have htal := tenAlloc_run
  have hzr := conZero_run
  obtain ⟨r0, hr0⟩ : ∃ r, r = ck B s 0 := ⟨_, rfl⟩
  have HR0 := Lib.hid hr0
  have HS := Lib.hid hs
  obtain ⟨i0, hi, hz0, hz1, hz2⟩ := info_parts infoTen
  have HZ0 := Lib.hid hz0
  obtain ⟨n0, hn0⟩ : ∃ n0, n0 = B.length := ⟨_, rfl⟩
  have HN0 := Lib.hid hn0
  rw [← hn0]
  clear hT0 hrow hc hB hr0 hz0 hs hn0
  go_enter Tryz.func22, Tryz.ntmps22
  go_upto_region 3 with fail
  refine grab_world fun W0 hW0 => ?_
  have hT0 : RK w A c B r0.c r0.s nilv W0 := by rw [hW0, HR0.out, HN0.out]; exact HTZ.out
  have HT0 := Lib.hid hT0
  clear hT0 hW0 HTZ hal
  -- 0: ('n', 4, 0, 'ip', 'u32')
  have hk0 := HT0.out.num 4 (by omega) 0 (by omega)
  obtain ⟨x0, hx0⟩ : ∃ x, x = (rnum B 4 r0.s).1 := ⟨_, rfl⟩
  rw [← hx0] at hk0
  have e0 := wrap_u32 (n := x0) (by rw [hx0]; exact rnum_lt B 4 _)
  have HC0 := Lib.hid hk0
  have HX0 := Lib.hid hx0
  clear hk0 hx0
  go_upto_region 4 with (first | (go_at_call 44; refine HC0.out.mono ?_; rintro e v0 ⟨rfl, rt, fz, u0, cu⟩; have HN0 := Lib.hid rt; clear rt) | fail)
  refine grab_world fun W1 hW1 => ?_
  obtain ⟨r1, hr1⟩ : ∃ r : CS, r = { r0 with c := { r0.c with ip := x0 }, s := (rnum B 4 r0.s).2 } := ⟨_, rfl⟩
  have hT1 : RK w A c B r1.c r1.s nilv W1 := by rw [hW1, hr1]; exact HN0.out.set 0 _ rfl rfl
  have HR1 := Lib.hid (show r1 = ck B s 1 by rw [hr1, HX0.out, HR0.out]; rfl)
  have HT1 := Lib.hid hT1
  clear hT1 hW1 HC0 HN0 HT0 fz cu e0 hr1 HR0 HX0
  -- 1: ('mac', 1, 'mac')
  have hk1 := HT1.out.mac 1 (by omega)
  obtain ⟨x1, hx1⟩ : ∃ x, x = M6.of (rtake B r1.s 6).1 := ⟨_, rfl⟩
  rw [← hx1] at hk1
  obtain ⟨a1, ha1⟩ : ∃ a, a = (bcells x1.l).toArray := ⟨_, rfl⟩
  obtain ⟨b1, hb1⟩ : ∃ b, b = (splice (r1.c.cells nilv).toList 1 (bcells x1.l)).toArray := ⟨_, rfl⟩
  rw [← ha1, ← hb1] at hk1
  have HC1 := Lib.hid hk1
  have HX1 := Lib.hid (And.intro hx1 hb1)
  clear hk1 hx1 ha1 hb1
  go_upto_region 5 with (first | (go_at_call 47; refine HC1.out.mono ?_; rintro e v1 ⟨rfl, rt, fz⟩; have HN1 := Lib.hid rt; clear rt) | fail)
  refine grab_world fun W2 hW2 => ?_
  obtain ⟨r2, hr2⟩ : ∃ r : CS, r = { r1 with c := { r1.c with mac := x1 }, s := (rtake B r1.s 6).2 } := ⟨_, rfl⟩
  have hT2 : RK w A c B r2.c r2.s nilv W2 := by rw [hW2, hr2, HX1.out.2]; exact HN1.out.spl 1 _ rfl rfl
  have HR2 := Lib.hid (show r2 = ck B s 2 by rw [hr2, HX1.out.1, HR1.out]; rfl)
  have HT2 := Lib.hid hT2
  clear hT2 hW2 HC1 HN1 HT1 fz hr2 HR1 HX1
  -- 2: ('mac', 7, 'omac')
  have hk2 := HT2.out.mac 7 (by omega)
  obtain ⟨x2, hx2⟩ : ∃ x, x = M6.of (rtake B r2.s 6).1 := ⟨_, rfl⟩
  rw [← hx2] at hk2
  obtain ⟨a2, ha2⟩ : ∃ a, a = (bcells x2.l).toArray := ⟨_, rfl⟩
  obtain ⟨b2, hb2⟩ : ∃ b, b = (splice (r2.c.cells nilv).toList 7 (bcells x2.l)).toArray := ⟨_, rfl⟩
  rw [← ha2, ← hb2] at hk2
  have HC2 := Lib.hid hk2
  have HX2 := Lib.hid (And.intro hx2 hb2)
  clear hk2 hx2 ha2 hb2
  go_upto_region 6 with (first | (go_at_call 47; refine HC2.out.mono ?_; rintro e v2 ⟨rfl, rt, fz⟩; have HN2 := Lib.hid rt; clear rt) | fail)
  refine grab_world fun W3 hW3 => ?_
  obtain ⟨r3, hr3⟩ : ∃ r : CS, r = { r2 with c := { r2.c with omac := x2 }, s := (rtake B r2.s 6).2 } := ⟨_, rfl⟩
  have hT3 : RK w A c B r3.c r3.s nilv W3 := by rw [hW3, hr3, HX2.out.2]; exact HN2.out.spl 7 _ rfl rfl
  have HR3 := Lib.hid (show r3 = ck B s 3 by rw [hr3, HX2.out.1, HR2.out]; rfl)
  have HT3 := Lib.hid hT3
  clear hT3 hW3 HC2 HN2 HT2 fz hr3 HR2 HX2
  -- 3: ('mac', 13, 'nmac')
  have hk3 := HT3.out.mac 13 (by omega)
  obtain ⟨x3, hx3⟩ : ∃ x, x = M6.of (rtake B r3.s 6).1 := ⟨_, rfl⟩
  rw [← hx3] at hk3
  obtain ⟨a3, ha3⟩ : ∃ a, a = (bcells x3.l).toArray := ⟨_, rfl⟩
  obtain ⟨b3, hb3⟩ : ∃ b, b = (splice (r3.c.cells nilv).toList 13 (bcells x3.l)).toArray := ⟨_, rfl⟩
  rw [← ha3, ← hb3] at hk3
  have HC3 := Lib.hid hk3
  have HX3 := Lib.hid (And.intro hx3 hb3)
  clear hk3 hx3 ha3 hb3
  go_upto_region 7 with (first | (go_at_call 47; refine HC3.out.mono ?_; rintro e v3 ⟨rfl, rt, fz⟩; have HN3 := Lib.hid rt; clear rt) | fail)
  refine grab_world fun W4 hW4 => ?_
  obtain ⟨r4, hr4⟩ : ∃ r : CS, r = { r3 with c := { r3.c with nmac := x3 }, s := (rtake B r3.s 6).2 } := ⟨_, rfl⟩
  have hT4 : RK w A c B r4.c r4.s nilv W4 := by rw [hW4, hr4, HX3.out.2]; exact HN3.out.spl 13 _ rfl rfl
  have HR4 := Lib.hid (show r4 = ck B s 4 by rw [hr4, HX3.out.1, HR3.out]; rfl)
  have HT4 := Lib.hid hT4
  clear hT4 hW4 HC3 HN3 HT3 fz hr4 HR3 HX3
  -- 4: ('key', 19, 'key')
  have hk4 := HT4.out.key 19 (by omega)
  obtain ⟨x4, hx4⟩ : ∃ x, x = K8.of (rtake B r4.s 8).1 := ⟨_, rfl⟩
  rw [← hx4] at hk4
  obtain ⟨a4, ha4⟩ : ∃ a, a = (bcells x4.l).toArray := ⟨_, rfl⟩
  obtain ⟨b4, hb4⟩ : ∃ b, b = (splice (r4.c.cells nilv).toList 19 (bcells x4.l)).toArray := ⟨_, rfl⟩
  rw [← ha4, ← hb4] at hk4
  have HC4 := Lib.hid hk4
  have HX4 := Lib.hid (And.intro hx4 hb4)
  clear hk4 hx4 ha4 hb4
  go_upto_region 8 with (first | (go_at_call 48; refine HC4.out.mono ?_; rintro e v4 ⟨rfl, rt, fz⟩; have HN4 := Lib.hid rt; clear rt) | fail)
  refine grab_world fun W5 hW5 => ?_
  obtain ⟨r5, hr5⟩ : ∃ r : CS, r = { r4 with c := { r4.c with key := x4 }, s := (rtake B r4.s 8).2 } := ⟨_, rfl⟩
  have hT5 : RK w A c B r5.c r5.s nilv W5 := by rw [hW5, hr5, HX4.out.2]; exact HN4.out.spl 19 _ rfl rfl
  have HR5 := Lib.hid (show r5 = ck B s 5 by rw [hr5, HX4.out.1, HR4.out]; rfl)
  have HT5 := Lib.hid hT5
  clear hT5 hW5 HC4 HN4 HT4 fz hr5 HR4 HX4
  -- 5: ('n', 4, 27, 'drain', 'u32')
  have hk5 := HT5.out.num 4 (by omega) 27 (by omega)
  obtain ⟨x5, hx5⟩ : ∃ x, x = (rnum B 4 r5.s).1 := ⟨_, rfl⟩
  rw [← hx5] at hk5
  have e5 := wrap_u32 (n := x5) (by rw [hx5]; exact rnum_lt B 4 _)
  have HC5 := Lib.hid hk5
  have HX5 := Lib.hid hx5
  clear hk5 hx5
  go_upto_region 9 with (first | (go_at_call 44; refine HC5.out.mono ?_; rintro e v5 ⟨rfl, rt, fz, u5, cu⟩; have HN5 := Lib.hid rt; clear rt) | fail)
  refine grab_world fun W6 hW6 => ?_
  obtain ⟨r6, hr6⟩ : ∃ r : CS, r = { r5 with c := { r5.c with drain := x5 }, s := (rnum B 4 r5.s).2 } := ⟨_, rfl⟩
  have hT6 : RK w A c B r6.c r6.s nilv W6 := by rw [hW6, hr6]; exact HN5.out.set 27 _ rfl rfl
  have HR6 := Lib.hid (show r6 = ck B s 6 by rw [hr6, HX5.out, HR5.out]; rfl)
  have HT6 := Lib.hid hT6
  clear hT6 hW6 HC5 HN5 HT5 fz cu e5 hr6 HR5 HX5
  -- 6: ('c', 'nt')
  have hk6 := HT6.out.num 1 (by omega) 0 (by omega)
  obtain ⟨x6, hx6⟩ : ∃ x, x = (rnum B 1 r6.s).1 := ⟨_, rfl⟩
  rw [← hx6] at hk6
  have e6 := wrap_i64 (n := x6) (Nat.lt_of_lt_of_le (by rw [hx6]; exact rnum_lt B 1 _) (by decide))
  have hy6 : x6 < 256 := by rw [hx6]; exact rnum_lt B 1 _
  have HC6 := Lib.hid hk6
  have HX6 := Lib.hid hx6
  clear hk6 hx6
  go_upto_region 10 with (first | (go_at_call 44; refine HC6.out.mono ?_; rintro e v6 ⟨rfl, rt, fz, u6, cu⟩; have HN6 := Lib.hid rt; clear rt) | fail)
  refine grab_world fun W7 hW7 => ?_
  obtain ⟨r7, hr7⟩ : ∃ r : CS, r = { r6 with nt := x6, s := (rnum B 1 r6.s).2 } := ⟨_, rfl⟩
  have hT7 : RK w A c B r7.c r7.s nilv W7 := by rw [hW7, hr7]; exact HN6.out
  have HR7 := Lib.hid (show r7 = ck B s 7 by rw [hr7, HX6.out, HR6.out]; rfl)
  have HT7 := Lib.hid hT7
  have HY6 := Lib.hid (And.intro (show r7.nt = x6 by rw [hr7]) hy6)
  clear hT7 hW7 HC6 HN6 HT6 fz cu e6 hy6 hr7 HR6 HX6
  -- the tenants
  have hx6 := HY6.out.2
  go_wp2
  go_loopw [7] (fun i wr => ∃ (j : Nat) (acc : List TV) (s' : St) (v : Value), i = .int .i64 j ∧ j ≤ x6 ∧ acc.length ≤ j ∧ rmany (rten B) x6 r7.s = (acc.map (·.t) ++ (rmany (rten B) (x6 - j) s').1, (rmany (rten B) (x6 - j) s').2) ∧
    RK w A c B r7.c s' v wr ∧ TVs wr (w.heap.size + 3) v acc) (fun i _ => x6 - (intOf i).toNat)
  case atStart => exact ⟨0, [], r7.s, nilv, rfl, by omega, by simp, by simp, HT7.out, ⟨⟨rfl, .inl ⟨rfl, rfl⟩⟩, by simp⟩⟩
  case round =>
    obtain ⟨j, acc, s', v, rfl, hj, hacc, hsp, hrt, htv⟩ := hrel
    have d2 := blk_cell hrt.rd 2
    have d1 := blk_cell hrt.rd 1
    simp at d2 d1
    by_cases hlt : j < x6
    · have p1 : (0:Int) ≤ j := by omega
      have p2 : (j:Int) < x6 := by omega
      obtain ⟨at_, sh⟩ := s'
      cases sh
      · have hc1 := hrt.ten
        have hnx : x6 - j = (x6 - (j + 1)) + 1 := by omega
        rw [hnx, rmany_step _ _ rfl] at hsp
        obtain ⟨y, hy⟩ : ∃ y, y = (rten B (at_, false)).1 := ⟨_, rfl⟩
        obtain ⟨s2, hs2⟩ : ∃ s2, s2 = (rten B (at_, false)).2 := ⟨_, rfl⟩
        rw [← hy, ← hs2] at hc1 hsp
        have hown := htv.own
        have hob : ∀ k, v.ownBlock = some k → w.heap.size + 3 ≤ k := by
          intro k hk
          rcases hown.2 with ⟨rfl, _⟩ | ⟨g, cap, cur, rfl, hg, _⟩
          · simp [Value.ownBlock] at hk
          · obtain rfl : g = k := by simpa [Value.ownBlock] using hk
            exact hg
        have hsz := hrt.sz
        have HC1 := Lib.hid hc1
        have HR := Lib.hid (And.intro hsp (And.intro htv (And.intro hob (And.intro hsz hrt))))
        have hacc8 : acc.length ≤ 1000 := by omega
        have HA8 := Lib.hid hacc8
        clear hc1 hsp hy hs2 hown hob hsz hacc8 hrt htv d1
        go_upto_region 14 with (first
          | (go_at_call 45; refine HC1.out.mono ?_; rintro e w5 ⟨x, rfl, k0, kr, rt, m5⟩; obtain ⟨TA, hTA⟩ : ∃ TA, TA = x.cells.toArray := ⟨_, rfl⟩; have hTs : TA.size = 33 := (by rw [hTA]; rfl); have h1 : TA.all (·.oneCell') = true := (by rw [hTA]; exact TV.one kr); have hst0 := tenStore_new w5 TA hTs h1; rw [← hTA]; have HK5 := Lib.hid (And.intro k0 (And.intro kr (And.intro rt (And.intro m5 (And.intro hTA (And.intro hTs h1)))))); clear k0 kr rt m5 hTA hTs h1)
          | fail)
        have hbs : ∀ W : World, (tenSlice (.agg TA)).run Tryz.prog W = .ok (.slice (some ⟨W.heap.size, 0, none⟩) 1 1) (W.alloc (.cells TA 31)) := ten_build TA HK5.out.2.2.2.2.2.1
        have hld : (tenLoad (.pointer (some ⟨w5.heap.size, 0, none⟩))).run Tryz.prog (w5.alloc (.cells TA 31)) = .ok (.agg TA) (w5.alloc (.cells TA 31)) := tenLoad_run (at10 w5 _) HK5.out.2.2.2.2.2.1
        have dT5 : w5.cell? ⟨w.heap.size + 2, 28, none⟩ = some v := (blk_cell HK5.out.2.2.1.con 28).trans rfl
        have lT5 : w.heap.size + 2 < w5.heap.size := by have := HK5.out.2.2.1.sz; omega
        have hown5 : w5.ownsRow (w.heap.size + 3) 31 33 v acc.length (tvCells acc) := own_mod HR.out.2.1.own HK5.out.2.2.2.1 (fun k hk f => by have := HR.out.2.2.1 k hk; omega)
        have HO5 := Lib.hid hown5
        clear hown5
        go_wp2_with (first
          | (at_builtin; (refine wpList_append_lies _ (by rfl) _ _ 34 (by rfl) (w.heap.size + 3) 31 i0 _ 33 160 Tryz.underlying34 hi HZ0.out hz1 hz2 (by rfl) (by decide) v acc.length (tvCells acc) (by rfl) ?_ _ _ _ TA.toList (by rfl) ?_ ?_ ?_ (by decide) ?_ ?_ ?_ _ (by rfl) ?_; (exact own_mod HO5.out (by repeat (first | with_reducible exact Mod.refl _ _ | refine Mod.alloc ?_ _ | refine Mod.drew ?_)) (fun _ _ f => f)); (have := HK5.out.2.2.2.2.2.1; simpa using this); (first | exact World.news_of_block (at21 _ _ _) | exact World.news_of_block (at10 _ _)); (intro u hu; exact (Array.all_eq_true_iff_forall_mem.1 HK5.out.2.2.2.2.2.2) u (by simpa using hu)); (have := HA8.out; unfold maxLen; omega); (have := HA8.out; omega); (have := HK5.out.2.2.1.sz; simp; omega); intro g cap w6 own6 gr6 hat6 hlt6; have m6 : Mod (fun b => v.ownBlock = some b) w5 w6 := Mod.grown (((Mod.refl _ w5)).mono (fun _ f => f) |> (fun h => by repeat (first | with_reducible exact h | refine Mod.alloc ?_ _ | refine Mod.drew ?_))) gr6 (fun k hk => .inr hk); have rt6 := HK5.out.2.2.1.keep m6 (fun b f => HR.out.2.2.1 b f); have fT6 := blk_free rt6.con 28; have dT6 : w6.cell? ⟨w.heap.size + 2, 28, none⟩ = some v := (blk_cell rt6.con 28).trans rfl; have H6 := Lib.hid (And.intro own6 (And.intro m6 (And.intro hat6 rt6))); clear own6 m6 hat6 gr6 rt6))
          | fail)
        have hsz5 := HK5.out.2.2.1.sz
        have hm5 := HK5.out.2.2.2.1
        have hszr := hm5.size
        have hg6 : v.ownBlock = some g ∨ w5.heap.size ≤ g := by
          rcases H6.out.2.2.1 with f | f
          · exact .inl f
          · right; simp at f; omega
        have hgT : g ≠ w.heap.size + 2 := fun e => by
          rcases hg6 with f | f
          · have := HR.out.2.2.1 g f; omega
          · omega
        have hk0 := HK5.out.1
        have htl : x.cells = TA.toList := by rw [HK5.out.2.2.2.2.1]
        refine ⟨⟨j + 1, acc ++ [x], s2, .slice (some ⟨g, 0, none⟩) (acc.length + 1) cap, by go_num, by omega, by simp; omega, ?_, ?_, ⟨?_, ?_⟩⟩, by simp [intOf]; omega⟩
        · rw [HR.out.1]; simp [hk0]
        · exact H6.out.2.2.2.set 28 _ rfl rfl
        · refine own_mod (F := fun b => b = w.heap.size + 2) ?_ (Mod.setCell (p := ⟨w.heap.size + 2, 28, none⟩) (Mod.refl (fun b => b = w.heap.size + 2) w6) (.inr rfl) _) (fun k hk f => ?_)
          · have := H6.out.1
            rw [← htl] at this
            simpa [tvCells] using this
          · subst f
            exact hgT (by simpa [Value.ownBlock] using hk)
        · have hk6 : ∀ S' : Nat → Prop, (∀ b, S' b → v.ownBlock ≠ some b ∧ b ≠ w.heap.size + 2) → Keeps S' w5 (w6.setCell ⟨w.heap.size + 2, 28, none⟩ (.slice (some ⟨g, 0, none⟩) (acc.length + 1) cap)) := fun S' hS' => by
            refine Mod.keeps (F := fun b => v.ownBlock = some b ∨ b = w.heap.size + 2) (Mod.setCell (H6.out.2.1.mono (fun b h => .inl h)) (.inr (.inr rfl)) _) (fun b _ hb f => ?_)
            rcases f with f | f
            · exact (hS' b hb).1 f
            · exact (hS' b hb).2 f
          have hnew : ∀ b, b < w5.heap.size → v.ownBlock ≠ some b → (Value.slice (some ⟨g, 0, none⟩) (acc.length + 1) cap).ownBlock ≠ some b := fun b hb hv e => by
            obtain rfl : g = b := by simpa [Value.ownBlock] using e
            rcases hg6 with f | f
            · exact hv f
            · omega
          have fin : ∀ z : TV, z.Rows (fun b => w.heap.size + 3 ≤ b ∧ v.ownBlock ≠ some b) w5 → z.Rows (fun b => w.heap.size + 3 ≤ b ∧ (Value.slice (some ⟨g, 0, none⟩) (acc.length + 1) cap).ownBlock ≠ some b) (w6.setCell ⟨w.heap.size + 2, 28, none⟩ (.slice (some ⟨g, 0, none⟩) (acc.length + 1) cap)) := by
            intro z hz
            have h1 := (hz.lt (S' := fun b => (w.heap.size + 3 ≤ b ∧ v.ownBlock ≠ some b) ∧ b < w5.heap.size) (fun b hb h => ⟨h, hb⟩)).keeps (hk6 _ (fun b hb => ⟨hb.1.2, by have := hb.1.1; omega⟩))
            exact h1.imp (fun b hb => ⟨hb.1.1, hnew b hb.2 hb.1.2⟩)
          intro z hz
          rcases List.mem_append.1 hz with hz | hz
          · refine fin z ?_
            have h1 := (HR.out.2.1.rows z hz).lt (S' := fun b => (w.heap.size + 3 ≤ b ∧ v.ownBlock ≠ some b) ∧ b < wr.heap.size) (fun b hb h => ⟨h, hb⟩)
            exact (h1.keeps (hm5.keeps (fun b _ hb f => by have := hb.1.1; omega))).imp (fun b hb => hb.1)
          · obtain rfl : z = x := by simpa using hz
            have hszw := HR.out.2.2.2.1
            refine fin z (HK5.out.2.1.imp (fun b hb => ?_))
            exact ⟨by omega, own_ne HR.out.2.1.own (.inr (by omega))⟩
      · obtain ⟨s', hs'⟩ : ∃ s' : St, s' = (at_, true) := ⟨_, rfl⟩
        have hp : rmany (rten B) x6 r7.s = (acc.map (·.t), s') := by rw [hsp, rmany_short (rten B) (x6 - j) (s := (at_, true)) rfl, hs']; simp
        have hneg : ¬ (s'.2 = false ∧ s'.1 = n0) := by rw [hs']; simp
        have HRC := Lib.hid (show rcon B (0, false) = ({ r7 with l := acc.map (·.t), s := s' } : CS) by
          show ck B (0, false) 8 = _
          rw [show ck B (0, false) 8 = (fun r : CS => ({ r with l := (rmany (rten B) r.nt r.s).1, s := (rmany (rten B) r.nt r.s).2 } : CS)) (ck B (0, false) 7) from rfl, ← HS.out, ← HR7.out]
          simp only [HY6.out.1, hp])
        clear hs'
        have hbad : ocf B = (Con.zero, [], 70) := by rw [ocf, HRC.out, if_neg (by rw [← HN0.out]; exact hneg)]
        have hst : (conStore (.pointer (some ⟨w.heap.size, 0, none⟩)) (.agg zCon)).run Tryz.prog wr = .ok () (wr.setRow w.heap.size zCon) := conStore_row (old := zCon) hrt.res rfl rfl (con_one .zero none 0 0)
        have hres := setRow_heap wr w.heap.size _ zCon _ _ hrt.res
        have HBAD := Lib.hid hbad
        have H9 := Lib.hid (And.intro hres hrt)
        clear hres hrt htv hsp hbad hp hneg
        go_wp2
        refine bodyPost_ret (results_cell_tmp rfl _ _ w.heap.size 36 zCon (0, 0) _ rfl H9.out.1 Tryz.underlying36 rfl (by rw [conSize]; rfl)) rfl ?_
        rw [HBAD.out]
        exact ⟨.slice none 0 0, [], rfl, rfl, ⟨⟨rfl, .inl ⟨rfl, rfl⟩⟩, by simp⟩, H9.out.2.mod.trans' (setRow_mod zCon) (fun i hi f => by omega)⟩
    · obtain rfl : x6 = j := by omega
      have hp : rmany (rten B) x6 r7.s = (acc.map (·.t), s') := by rw [hsp, Nat.sub_self]; simp [rmany]
      have HRC := Lib.hid (show rcon B (0, false) = ({ r7 with l := acc.map (·.t), s := s' } : CS) by
        show ck B (0, false) 8 = _
        rw [show ck B (0, false) 8 = (fun r : CS => ({ r with l := (rmany (rten B) r.nt r.s).1, s := (rmany (rten B) r.nt r.s).2 } : CS)) (ck B (0, false) 7) from rfl, ← HS.out, ← HR7.out]
        simp only [HY6.out.1, hp])
      obtain ⟨at_, sh⟩ := s'
      cases sh
      · simp at d1 d2
        by_cases hat : at_ = n0
        · have hpos : (((at_, false) : St).2 = false ∧ ((at_, false) : St).1 = n0) := ⟨rfl, hat⟩
          subst hat
          have hok : ocf B = (r7.c, acc.map (·.t), 0) := by rw [ocf, HRC.out, if_pos (by rw [← HN0.out]; exact hpos)]
          obtain ⟨CA, hCA⟩ : ∃ CA, CA = r7.c.cells v := ⟨_, rfl⟩
          have hCs : CA.size = 29 := by rw [hCA]; rfl
          obtain ⟨vP, vc, hv⟩ : ∃ P p, v = .slice P acc.length p := by obtain ⟨P, p, h, _⟩ := own_rowAt htv.own; exact ⟨P, p, h⟩
          have h1 : CA.all (·.oneCell') = true := by rw [hCA, hv]; exact con_one _ _ _ _
          have hld := conLoad_run (by rw [hCA]; exact hrt.con) hCs
          have hst : (conStore (.pointer (some ⟨w.heap.size, 0, none⟩)) (.agg CA)).run Tryz.prog wr = .ok () (wr.setRow w.heap.size CA) := conStore_row (old := zCon) hrt.res rfl hCs h1
          have hres := setRow_heap wr w.heap.size _ CA _ _ hrt.res
          have HOK := Lib.hid hok
          have H9 := Lib.hid (And.intro hres (And.intro hrt (And.intro htv (And.intro hCs hCA))))
          clear hres hrt htv hsp hok hp hpos hCs hCA h1 hv
          go_wp2
          refine bodyPost_ret (results_cell_tmp rfl _ _ w.heap.size 36 CA (0, 0) _ rfl H9.out.1 Tryz.underlying36 rfl (by rw [conSize, H9.out.2.2.2.1])) rfl ?_
          obtain ⟨k1, k2, k3, k4, k5⟩ := H9.out
          rw [HOK.out]
          refine ⟨v, acc, by rw [k5]; rfl, rfl, ?_, k2.mod.trans' (setRow_mod CA) (fun i hi f => by omega)⟩
          have h3 := k3.mod (setRow_mod (w := wr) (g := w.heap.size) CA) (fun b hb _ f => by omega)
          exact ⟨⟨h3.own.1, h3.own.2.imp id (fun ⟨g, cap, cur, a, b, c⟩ => ⟨g, cap, cur, a, Nat.le_trans (Nat.le_add_right _ _) b, c⟩)⟩, fun x hx => (h3.rows x hx).imp (fun b hb => ⟨by have := hb.1; omega, hb.2⟩)⟩
        · have hneg : ¬ (((at_, false) : St).2 = false ∧ ((at_, false) : St).1 = n0) := fun f => hat f.2
          have hat' : ¬ ((at_ : Int) = (n0 : Int)) := by omega
          have hbad : ocf B = (Con.zero, [], 70) := by rw [ocf, HRC.out, if_neg (by rw [← HN0.out]; exact hneg)]
          have hst : (conStore (.pointer (some ⟨w.heap.size, 0, none⟩)) (.agg zCon)).run Tryz.prog wr = .ok () (wr.setRow w.heap.size zCon) := conStore_row (old := zCon) hrt.res rfl rfl (con_one .zero none 0 0)
          have hres := setRow_heap wr w.heap.size _ zCon _ _ hrt.res
          have HBAD := Lib.hid hbad
          have H9 := Lib.hid (And.intro hres hrt)
          clear hres hrt htv hsp hbad hp hneg
          go_wp2
          refine bodyPost_ret (results_cell_tmp rfl _ _ w.heap.size 36 zCon (0, 0) _ rfl H9.out.1 Tryz.underlying36 rfl (by rw [conSize]; rfl)) rfl ?_
          rw [HBAD.out]
          exact ⟨.slice none 0 0, [], rfl, rfl, ⟨⟨rfl, .inl ⟨rfl, rfl⟩⟩, by simp⟩, H9.out.2.mod.trans' (setRow_mod zCon) (fun i hi f => by omega)⟩
      · simp at d1 d2
        have hneg : ¬ (((at_, true) : St).2 = false ∧ ((at_, true) : St).1 = n0) := by simp
        have hbad : ocf B = (Con.zero, [], 70) := by rw [ocf, HRC.out, if_neg (by rw [← HN0.out]; exact hneg)]
        have hst : (conStore (.pointer (some ⟨w.heap.size, 0, none⟩)) (.agg zCon)).run Tryz.prog wr = .ok () (wr.setRow w.heap.size zCon) := conStore_row (old := zCon) hrt.res rfl rfl (con_one .zero none 0 0)
        have hres := setRow_heap wr w.heap.size _ zCon _ _ hrt.res
        have HBAD := Lib.hid hbad
        have H9 := Lib.hid (And.intro hres hrt)
        clear hres hrt htv hsp hbad hp hneg
        go_wp2
        refine bodyPost_ret (results_cell_tmp rfl _ _ w.heap.size 36 zCon (0, 0) _ rfl H9.out.1 Tryz.underlying36 rfl (by rw [conSize]; rfl)) rfl ?_
        rw [HBAD.out]
        exact ⟨.slice none 0 0, [], rfl, rfl, ⟨⟨rfl, .inl ⟨rfl, rfl⟩⟩, by simp⟩, H9.out.2.mod.trans' (setRow_mod zCon) (fun i hi f => by omega)⟩
end

section
attribute [local go_sem] stPair gtPair gtK8 gtM6 run_store_func
attribute [local go_sem high] neqPair eqK8 eqM6
attribute [local go_sem ↓] load_fold store_fold alloc_fold slice_op_fold con_load_fold chg_load_fold ten_zero_fold con_alloc_fold con_store_fold con_zero_fold chg_alloc_fold chg_store_fold chg_zero_fold chg_put_fold
open Go.RowKit
set_option linter.unusedVariables false
def chgMake (v u : Value) : Sem Value := Instr.build 33 #[(0, v), (2, u)]
theorem chg_make_fold (ρ : Operand → Value) (x y : Operand) (dst : Option Tmp) (ty : TypeId) (pos : String) (after : Array Edge) (g : Option (Nat × Bool)) :
    execOp ρ { dst := dst, op := .build 33 #[(0, x), (2, y)], type := ty, pos := pos, after := after, guard := g } = (do pure (Next.value (← chgMake (ρ x) (ρ y))) : Sem Next) := by
  show (do pure (Next.value (← Instr.build 33 (#[(0, x), (2, y)].map fun (i, x) => (i, ρ x)))) : Sem Next) = _
  have hm : (#[((0 : Nat), x), (2, y)].map fun (i, x) => (i, ρ x)) = #[(0, ρ x), (2, ρ y)] := by simp
  rw [hm]
  rfl
attribute [local go_sem ↓] chg_make_fold
end

section
attribute [local go_sem] stPair gtPair gtK8 gtM6 run_store_func
attribute [local go_sem high] neqPair eqK8 eqM6
attribute [local go_sem ↓] load_fold store_fold alloc_fold slice_op_fold con_load_fold chg_load_fold ten_zero_fold con_alloc_fold con_store_fold con_zero_fold chg_alloc_fold chg_store_fold chg_zero_fold chg_put_fold chg_make_fold
open Go.RowKit
set_option linter.unusedVariables false
theorem own_tail (n c at_ : Nat) (A : Option Addr) (h1 : at_ ≤ n) (h2 : n ≤ c) :
    ∃ A', (∀ W, (Instr.slice 40 (.slice A n c) (some (.int .i64 (at_ : Int))) none none).run Tryz.prog W = .ok (.slice A' (n - at_) (c - at_)) W) ∧ ∀ (S : Nat → Prop) (w : World) (cs : List Value), RowAt S w A cs → RowAt S w A' ((cs.drop at_).take (n - at_)) := by
  obtain ⟨A', e, r⟩ := own_row_bytes n c at_ (n - at_) A (by omega) h2
  have he : Tryz.prog.elem 40 = 5 := by kernel_rfl
  refine ⟨A', fun W => ?_, r⟩
  rw [← e W, run_slice_l (P := Tryz.prog) W 40 A n c (by rw [he]; exact Tryz.underlying40) .i64 (at_ : Int) (by omega) (by omega), run_slice_lh (P := Tryz.prog) W 40 A n c (by rw [he]; exact Tryz.underlying40) .i64 .i64 (at_ : Int) ((at_ : Int) + ((n - at_ : Nat) : Int)) (by omega) (by omega) (by omega)]
  have : ((at_ : Int) + ((n - at_ : Nat) : Int)).toNat = n := by omega
  rw [this]
theorem tenant_same {S S' : Nat → Prop} {w : World} {x y : TV} (hx : x.Rows S w) (hy : y.Rows S' w) (e : x.t = y.t) (h1 : y.t.pool.length ≤ 300) (h2 : y.t.statics.length ≤ 300) (h3 : y.t.twices.length ≤ 300) :
    Calls Tryz.prog 49 #[.agg x.cells.toArray, .agg y.cells.toArray] w fun e w' => e = .returned (.bool true) ∧ Mod No w w' := by
  have val : ∀ {S : Nat → Prop} {x : TV}, x.Rows S w → TenV S w x.t (.agg x.cells.toArray) := by
    intro S x h
    obtain ⟨P, p, Q, q, R, r, e1, e2, e3, r1, r2, r3⟩ := h
    exact ⟨P, p, Q, q, R, r, by simp [TV.cells, e1, e2, e3], r1, r2, r3⟩
  have h := tenant_ok x.t y.t _ _ (val hx) (val hy) (by rw [e]; omega) (by rw [e]; omega) (by rw [e]; omega)
  rw [e, decide_eq_true rfl] at h
  exact h
end

end Go.Proofs.YtpkieilmlnlpkaaGreat
