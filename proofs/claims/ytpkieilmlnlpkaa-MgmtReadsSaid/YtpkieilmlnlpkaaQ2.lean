/-
  CfgH, CfgM, CfgN, CfgO, CfgP, CfgJ, CfgK, CfgR, CfgS in one text (pack.py).
-/
import Derived.Test.YtpkieilmlnlpkaaQ1
import Derived.Stop.BytesEq
import Derived.Laws.Rows
import Derived.Lib.BufferRead
namespace Go.Proofs.Ytpkieilmlnlpkaa

section
attribute [local go_sem] stPair gtPair
attribute [local go_sem high] neqPair
open Go.RowKit
set_option linter.unusedVariables false
theorem szU8 : ∀ w, (sizeOf 5).run Try.prog w = .ok 1 w := fun w => by kernel_rfl
theorem gtK8 : Try.prog.eqGuardType Try.prog.depth 24 = false := by kernel_rfl
attribute [local go_sem] gtK8
theorem gtM6 : Try.prog.eqGuardType Try.prog.depth 28 = false := by kernel_rfl
attribute [local go_sem] gtM6
theorem k8_beq (a b : K8) : (a.l == b.l) = decide (a = b) := by
  obtain ⟨a0, a1, a2, a3, a4, a5, a6, a7⟩ := a
  obtain ⟨b0, b1, b2, b3, b4, b5, b6, b7⟩ := b
  rw [Bool.eq_iff_iff]
  simp [K8.l]
theorem m6_beq (a b : M6) : (a.l == b.l) = decide (a = b) := by
  obtain ⟨a0, a1, a2, a3, a4, a5⟩ := a
  obtain ⟨b0, b1, b2, b3, b4, b5⟩ := b
  rw [Bool.eq_iff_iff]
  simp [M6.l]
theorem eqK8 (a b : K8) (w : World) : (binOp .eql 24 (.agg #[.int .u8 (a.b0.toNat : Int), .int .u8 (a.b1.toNat : Int), .int .u8 (a.b2.toNat : Int), .int .u8 (a.b3.toNat : Int), .int .u8 (a.b4.toNat : Int), .int .u8 (a.b5.toNat : Int), .int .u8 (a.b6.toNat : Int), .int .u8 (a.b7.toNat : Int)]) (.agg #[.int .u8 (b.b0.toNat : Int), .int .u8 (b.b1.toNat : Int), .int .u8 (b.b2.toNat : Int), .int .u8 (b.b3.toNat : Int), .int .u8 (b.b4.toNat : Int), .int .u8 (b.b5.toNat : Int), .int .u8 (b.b6.toNat : Int), .int .u8 (b.b7.toNat : Int)])).run Try.prog w = .ok (.bool (decide (a = b))) w := by
  rw [← k8_beq]
  exact run_eql_bytes w 24 5 8 Try.underlying24 Try.underlying5 szU8 a.l b.l rfl rfl
attribute [local go_sem high] eqK8
theorem eqM6 (a b : M6) (w : World) : (binOp .eql 28 (.agg #[.int .u8 (a.b0.toNat : Int), .int .u8 (a.b1.toNat : Int), .int .u8 (a.b2.toNat : Int), .int .u8 (a.b3.toNat : Int), .int .u8 (a.b4.toNat : Int), .int .u8 (a.b5.toNat : Int)]) (.agg #[.int .u8 (b.b0.toNat : Int), .int .u8 (b.b1.toNat : Int), .int .u8 (b.b2.toNat : Int), .int .u8 (b.b3.toNat : Int), .int .u8 (b.b4.toNat : Int), .int .u8 (b.b5.toNat : Int)])).run Try.prog w = .ok (.bool (decide (a = b))) w := by
  rw [← m6_beq]
  exact run_eql_bytes w 28 5 6 Try.underlying28 Try.underlying5 szU8 a.l b.l rfl rfl
attribute [local go_sem high] eqM6
theorem str_beq (l m : List UInt8) : ((str l).toList == (str m).toList) = decide (l = m) := by
  rw [ByteArray.toList_eq, ByteArray.toList_eq, Bool.eq_iff_iff]
  simp [str]
theorem ten_beq (a b : Ten) : (((((((((((((((decide (a.name = b.name) && ((a.vni : Int) == b.vni)) && decide (a.key = b.key)) && ((a.vtep : Int) == b.vtep)) && decide (a.vmac = b.vmac)) && decide (a.host = b.host)) && decide (a.pool = b.pool)) && ((a.lo : Int) == b.lo)) && ((a.hi : Int) == b.hi)) && (a.filter == b.filter)) && decide (a.statics = b.statics)) && decide (a.twices = b.twices)) && (a.sess == b.sess)) && (a.queue == b.queue)) && ((a.rate : Int) == b.rate)) && ((a.burst : Int) == b.burst)) = decide (a = b) := by
  obtain ⟨a0, a1, a2, a3, a4, a5, a6, a7, a8, a9, a10, a11, a12, a13, a14, a15⟩ := a
  obtain ⟨b0, b1, b2, b3, b4, b5, b6, b7, b8, b9, b10, b11, b12, b13, b14, b15⟩ := b
  rw [Bool.eq_iff_iff]
  simp only [nat_beq, Bool.and_eq_true, decide_eq_true_eq, beq_iff_eq, Ten.mk.injEq, and_assoc]
set_option maxRecDepth 100000 in
theorem box_ten (CA : Array Value) (h : CA.size = 33) : ∀ W, (Instr.box 33 (.agg CA)).run Try.prog W = .ok (.pointer (some ⟨W.heap.size, 0, none⟩)) (W.alloc (.cells CA 33)) := by
  intro W
  go_simp
set_option maxRecDepth 100000 in
set_option maxHeartbeats 2000000 in
theorem tenant_ok {S S' : Nat → Prop} {w : World} (a b : Ten) (va vb : Value) (ha : TenV S w a va) (hb : TenV S' w b vb) (la : a.pool.length ≤ 9223372036854775807) (ls : a.statics.length ≤ 9223372036854775807) (lt : a.twices.length ≤ 9223372036854775807) :
    Calls Try.prog 44 #[va, vb] w fun e w' => e = .returned (.bool (decide (a = b))) ∧ Mod No w w' := by
  obtain ⟨P, p, Q, q, R, r, rfl, h1, h2, h3⟩ := ha.val
  obtain ⟨P', p', Q', q', R', r', rfl, h1', h2', h3'⟩ := hb.val
  obtain ⟨CA, hCA⟩ : ∃ CA, CA = a.cells (.slice P a.pool.length p) (.slice Q a.statics.length q) (.slice R a.twices.length r) := ⟨_, rfl⟩
  obtain ⟨CB, hCB⟩ : ∃ CB, CB = b.cells (.slice P' b.pool.length p') (.slice Q' b.statics.length q') (.slice R' b.twices.length r') := ⟨_, rfl⟩
  have bA := box_ten CA (by rw [hCA]; rfl)
  have bB := box_ten CB (by rw [hCB]; rfl)
  rw [← hCA, ← hCB]
  have hm2 : ∀ q, Mod No w (((w.alloc (.cells CA 33)).alloc (.cells CB 33)).drewN q) := fun q => Mod.drewN (Mod.alloc (Mod.alloc (Mod.refl _ _) _) _) q
  have k1 : ∀ q, RowAt (fun b => S b ∧ b < w.heap.size) (((w.alloc (.cells CA 33)).alloc (.cells CB 33)).drewN q) P (numCells a.pool) := fun q => (h1.mono (fun b hb hs => ⟨hs, hb⟩)).keeps ((hm2 q).keeps (fun _ _ _ f => f))
  have k2 : ∀ q, RowAt (fun b => S b ∧ b < w.heap.size) (((w.alloc (.cells CA 33)).alloc (.cells CB 33)).drewN q) Q (prCells a.statics) := fun q => (h2.mono (fun b hb hs => ⟨hs, hb⟩)).keeps ((hm2 q).keeps (fun _ _ _ f => f))
  have k3 : ∀ q, RowAt (fun b => S b ∧ b < w.heap.size) (((w.alloc (.cells CA 33)).alloc (.cells CB 33)).drewN q) R (prCells a.twices) := fun q => (h3.mono (fun b hb hs => ⟨hs, hb⟩)).keeps ((hm2 q).keeps (fun _ _ _ f => f))
  have k1' : ∀ q, RowAt (fun b => S' b ∧ b < w.heap.size) (((w.alloc (.cells CA 33)).alloc (.cells CB 33)).drewN q) P' (numCells b.pool) := fun q => (h1'.mono (fun b hb hs => ⟨hs, hb⟩)).keeps ((hm2 q).keeps (fun _ _ _ f => f))
  have k2' : ∀ q, RowAt (fun b => S' b ∧ b < w.heap.size) (((w.alloc (.cells CA 33)).alloc (.cells CB 33)).drewN q) Q' (prCells b.statics) := fun q => (h2'.mono (fun b hb hs => ⟨hs, hb⟩)).keeps ((hm2 q).keeps (fun _ _ _ f => f))
  have k3' : ∀ q, RowAt (fun b => S' b ∧ b < w.heap.size) (((w.alloc (.cells CA 33)).alloc (.cells CB 33)).drewN q) R' (prCells b.twices) := fun q => (h3'.mono (fun b hb hs => ⟨hs, hb⟩)).keeps ((hm2 q).keeps (fun _ _ _ f => f))
  have hcells : ∀ q, (∀ j, (((w.alloc (.cells CA 33)).alloc (.cells CB 33)).drewN q).cell? ⟨w.heap.size, j, none⟩ = CA[j]?) ∧ (∀ j, (((w.alloc (.cells CA 33)).alloc (.cells CB 33)).drewN q).cell? ⟨w.heap.size + 1, j, none⟩ = CB[j]?) := fun q =>
    ⟨fun j => blk_cell (at20 w (.cells CA 33) (.cells CB 33)) j, fun j => blk_cell (at21 w (.cells CA 33) (.cells CB 33)) j⟩
  have HH := Lib.hid (And.intro k1 (And.intro k2 (And.intro k3 (And.intro k1' (And.intro k2' (And.intro k3' hcells))))))
  have HM := Lib.hid hm2
  have HA := Lib.hid hCA
  have HB := Lib.hid hCB
  clear ha hb h1 h2 h3 h1' h2' h3' k1 k2 k3 k1' k2' k3' hcells hm2 hCA hCB
  go_enter Try.func44, Try.ntmps44
  go_upto_region 1 with fail
  refine wp_region_lit ?_
  refine chain_first (n := 115) (pA := .pointer (some ⟨w.heap.size, 0, none⟩)) (pB := .pointer (some ⟨w.heap.size + 1, 0, none⟩)) (s1 := 5) (s2 := 6) (s3 := 7) (s4 := 8) (s5 := 9) (d' := 10) (e' := decide (a.name = b.name)) (R := (fun w' => ∃ q, w' = (((w.alloc (.cells CA 33)).alloc (.cells CB 33)).drewN q))) rfl rfl rfl rfl rfl rfl rfl rfl rfl rfl rfl rfl rfl rfl rfl rfl rfl rfl ?_ ?_
  ·
    have ca0 : CA[0]? = some (Value.string (str a.name)) := by rw [HA.out]; rfl
    have cb0 : CB[0]? = some (Value.string (str b.name)) := by rw [HB.out]; rfl
    refine ⟨.pointer (some ⟨w.heap.size, 0, none⟩), (.string (str a.name)), .pointer (some ⟨w.heap.size + 1, 0, none⟩), (.string (str b.name)), ?_, ?_, ?_, ?_, .inl ⟨?_, 0, rfl⟩⟩
    · intro ρ h; simp only [execOp, h]; go_simp
    · intro ρ h; simp only [execOp, h]; go_simp
    · intro ρ h; simp only [execOp, h]; go_simp
    · intro ρ h; simp only [execOp, h]; go_simp
    · intro ρ h1 h2; simp only [execOp, h1, h2]; go_simp; exact str_beq _ _
  rintro a0 _ hinv ⟨q1, rfl⟩
  refine chain_test (i := 5) (s1 := 11) (s2 := 12) (s3 := 13) (s4 := 14) (s5 := 15) (s6 := 16) (d' := 17) (e' := ((a.vni : Int) == b.vni)) (R := (fun w' => ∃ q, w' = (((w.alloc (.cells CA 33)).alloc (.cells CB 33)).drewN q))) hinv rfl rfl rfl rfl rfl rfl rfl rfl rfl rfl rfl rfl rfl rfl rfl rfl rfl (.inl rfl) ?_ ⟨q1, rfl⟩ ?_
  ·
    have ca1 : CA[1]? = some (Value.int .u32 (a.vni : Int)) := by rw [HA.out]; rfl
    have cb1 : CB[1]? = some (Value.int .u32 (b.vni : Int)) := by rw [HB.out]; rfl
    refine ⟨.pointer (some ⟨w.heap.size, 1, none⟩), (.int .u32 (a.vni : Int)), .pointer (some ⟨w.heap.size + 1, 1, none⟩), (.int .u32 (b.vni : Int)), ?_, ?_, ?_, ?_, .inl ⟨?_, q1, rfl⟩⟩
    · intro ρ h; simp only [execOp, h]; go_simp
    · intro ρ h; simp only [execOp, h]; go_simp
    · intro ρ h; simp only [execOp, h]; go_simp
    · intro ρ h; simp only [execOp, h]; go_simp
    · intro ρ h1 h2; simp only [execOp, h1, h2]; go_simp
  rintro a1 _ hinv ⟨q2, rfl⟩
  refine chain_test (i := 12) (s1 := 18) (s2 := 19) (s3 := 20) (s4 := 21) (s5 := 22) (s6 := 23) (d' := 24) (e' := decide (a.key = b.key)) (R := (fun w' => ∃ q, w' = (((w.alloc (.cells CA 33)).alloc (.cells CB 33)).drewN q))) hinv rfl rfl rfl rfl rfl rfl rfl rfl rfl rfl rfl rfl rfl rfl rfl rfl rfl (.inl rfl) ?_ ⟨q2, rfl⟩ ?_
  ·
    have ca2 : CA[2]? = some (Value.int .u8 (a.key.b0.toNat : Int)) := by rw [HA.out]; rfl
    have cb2 : CB[2]? = some (Value.int .u8 (b.key.b0.toNat : Int)) := by rw [HB.out]; rfl
    have ca3 : CA[3]? = some (Value.int .u8 (a.key.b1.toNat : Int)) := by rw [HA.out]; rfl
    have cb3 : CB[3]? = some (Value.int .u8 (b.key.b1.toNat : Int)) := by rw [HB.out]; rfl
    have ca4 : CA[4]? = some (Value.int .u8 (a.key.b2.toNat : Int)) := by rw [HA.out]; rfl
    have cb4 : CB[4]? = some (Value.int .u8 (b.key.b2.toNat : Int)) := by rw [HB.out]; rfl
    have ca5 : CA[5]? = some (Value.int .u8 (a.key.b3.toNat : Int)) := by rw [HA.out]; rfl
    have cb5 : CB[5]? = some (Value.int .u8 (b.key.b3.toNat : Int)) := by rw [HB.out]; rfl
    have ca6 : CA[6]? = some (Value.int .u8 (a.key.b4.toNat : Int)) := by rw [HA.out]; rfl
    have cb6 : CB[6]? = some (Value.int .u8 (b.key.b4.toNat : Int)) := by rw [HB.out]; rfl
    have ca7 : CA[7]? = some (Value.int .u8 (a.key.b5.toNat : Int)) := by rw [HA.out]; rfl
    have cb7 : CB[7]? = some (Value.int .u8 (b.key.b5.toNat : Int)) := by rw [HB.out]; rfl
    have ca8 : CA[8]? = some (Value.int .u8 (a.key.b6.toNat : Int)) := by rw [HA.out]; rfl
    have cb8 : CB[8]? = some (Value.int .u8 (b.key.b6.toNat : Int)) := by rw [HB.out]; rfl
    have ca9 : CA[9]? = some (Value.int .u8 (a.key.b7.toNat : Int)) := by rw [HA.out]; rfl
    have cb9 : CB[9]? = some (Value.int .u8 (b.key.b7.toNat : Int)) := by rw [HB.out]; rfl
    refine ⟨.pointer (some ⟨w.heap.size, 2, none⟩), (.agg #[.int .u8 (a.key.b0.toNat : Int), .int .u8 (a.key.b1.toNat : Int), .int .u8 (a.key.b2.toNat : Int), .int .u8 (a.key.b3.toNat : Int), .int .u8 (a.key.b4.toNat : Int), .int .u8 (a.key.b5.toNat : Int), .int .u8 (a.key.b6.toNat : Int), .int .u8 (a.key.b7.toNat : Int)]), .pointer (some ⟨w.heap.size + 1, 2, none⟩), (.agg #[.int .u8 (b.key.b0.toNat : Int), .int .u8 (b.key.b1.toNat : Int), .int .u8 (b.key.b2.toNat : Int), .int .u8 (b.key.b3.toNat : Int), .int .u8 (b.key.b4.toNat : Int), .int .u8 (b.key.b5.toNat : Int), .int .u8 (b.key.b6.toNat : Int), .int .u8 (b.key.b7.toNat : Int)]), ?_, ?_, ?_, ?_, .inl ⟨?_, q2, rfl⟩⟩
    · intro ρ h; simp only [execOp, h]; go_simp
    · intro ρ h; simp only [execOp, h]; go_simp
    · intro ρ h; simp only [execOp, h]; go_simp
    · intro ρ h; simp only [execOp, h]; go_simp
    · intro ρ h1 h2; simp only [execOp, h1, h2]; go_simp
  rintro a2 _ hinv ⟨q3, rfl⟩
  refine chain_test (i := 19) (s1 := 25) (s2 := 26) (s3 := 27) (s4 := 28) (s5 := 29) (s6 := 30) (d' := 31) (e' := ((a.vtep : Int) == b.vtep)) (R := (fun w' => ∃ q, w' = (((w.alloc (.cells CA 33)).alloc (.cells CB 33)).drewN q))) hinv rfl rfl rfl rfl rfl rfl rfl rfl rfl rfl rfl rfl rfl rfl rfl rfl rfl (.inl rfl) ?_ ⟨q3, rfl⟩ ?_
  ·
    have ca10 : CA[10]? = some (Value.int .u32 (a.vtep : Int)) := by rw [HA.out]; rfl
    have cb10 : CB[10]? = some (Value.int .u32 (b.vtep : Int)) := by rw [HB.out]; rfl
    refine ⟨.pointer (some ⟨w.heap.size, 10, none⟩), (.int .u32 (a.vtep : Int)), .pointer (some ⟨w.heap.size + 1, 10, none⟩), (.int .u32 (b.vtep : Int)), ?_, ?_, ?_, ?_, .inl ⟨?_, q3, rfl⟩⟩
    · intro ρ h; simp only [execOp, h]; go_simp
    · intro ρ h; simp only [execOp, h]; go_simp
    · intro ρ h; simp only [execOp, h]; go_simp
    · intro ρ h; simp only [execOp, h]; go_simp
    · intro ρ h1 h2; simp only [execOp, h1, h2]; go_simp
  rintro a3 _ hinv ⟨q4, rfl⟩
  refine chain_test (i := 26) (s1 := 32) (s2 := 33) (s3 := 34) (s4 := 35) (s5 := 36) (s6 := 37) (d' := 38) (e' := decide (a.vmac = b.vmac)) (R := (fun w' => ∃ q, w' = (((w.alloc (.cells CA 33)).alloc (.cells CB 33)).drewN q))) hinv rfl rfl rfl rfl rfl rfl rfl rfl rfl rfl rfl rfl rfl rfl rfl rfl rfl (.inl rfl) ?_ ⟨q4, rfl⟩ ?_
  ·
    have ca11 : CA[11]? = some (Value.int .u8 (a.vmac.b0.toNat : Int)) := by rw [HA.out]; rfl
    have cb11 : CB[11]? = some (Value.int .u8 (b.vmac.b0.toNat : Int)) := by rw [HB.out]; rfl
    have ca12 : CA[12]? = some (Value.int .u8 (a.vmac.b1.toNat : Int)) := by rw [HA.out]; rfl
    have cb12 : CB[12]? = some (Value.int .u8 (b.vmac.b1.toNat : Int)) := by rw [HB.out]; rfl
    have ca13 : CA[13]? = some (Value.int .u8 (a.vmac.b2.toNat : Int)) := by rw [HA.out]; rfl
    have cb13 : CB[13]? = some (Value.int .u8 (b.vmac.b2.toNat : Int)) := by rw [HB.out]; rfl
    have ca14 : CA[14]? = some (Value.int .u8 (a.vmac.b3.toNat : Int)) := by rw [HA.out]; rfl
    have cb14 : CB[14]? = some (Value.int .u8 (b.vmac.b3.toNat : Int)) := by rw [HB.out]; rfl
    have ca15 : CA[15]? = some (Value.int .u8 (a.vmac.b4.toNat : Int)) := by rw [HA.out]; rfl
    have cb15 : CB[15]? = some (Value.int .u8 (b.vmac.b4.toNat : Int)) := by rw [HB.out]; rfl
    have ca16 : CA[16]? = some (Value.int .u8 (a.vmac.b5.toNat : Int)) := by rw [HA.out]; rfl
    have cb16 : CB[16]? = some (Value.int .u8 (b.vmac.b5.toNat : Int)) := by rw [HB.out]; rfl
    refine ⟨.pointer (some ⟨w.heap.size, 11, none⟩), (.agg #[.int .u8 (a.vmac.b0.toNat : Int), .int .u8 (a.vmac.b1.toNat : Int), .int .u8 (a.vmac.b2.toNat : Int), .int .u8 (a.vmac.b3.toNat : Int), .int .u8 (a.vmac.b4.toNat : Int), .int .u8 (a.vmac.b5.toNat : Int)]), .pointer (some ⟨w.heap.size + 1, 11, none⟩), (.agg #[.int .u8 (b.vmac.b0.toNat : Int), .int .u8 (b.vmac.b1.toNat : Int), .int .u8 (b.vmac.b2.toNat : Int), .int .u8 (b.vmac.b3.toNat : Int), .int .u8 (b.vmac.b4.toNat : Int), .int .u8 (b.vmac.b5.toNat : Int)]), ?_, ?_, ?_, ?_, .inl ⟨?_, q4, rfl⟩⟩
    · intro ρ h; simp only [execOp, h]; go_simp
    · intro ρ h; simp only [execOp, h]; go_simp
    · intro ρ h; simp only [execOp, h]; go_simp
    · intro ρ h; simp only [execOp, h]; go_simp
    · intro ρ h1 h2; simp only [execOp, h1, h2]; go_simp
  rintro a4 _ hinv ⟨q5, rfl⟩
  refine chain_test (i := 33) (s1 := 39) (s2 := 40) (s3 := 41) (s4 := 42) (s5 := 43) (s6 := 44) (d' := 45) (e' := decide (a.host = b.host)) (R := (fun w' => ∃ q, w' = (((w.alloc (.cells CA 33)).alloc (.cells CB 33)).drewN q))) hinv rfl rfl rfl rfl rfl rfl rfl rfl rfl rfl rfl rfl rfl rfl rfl rfl rfl (.inl rfl) ?_ ⟨q5, rfl⟩ ?_
  ·
    have ca17 : CA[17]? = some (Value.int .u8 (a.host.b0.toNat : Int)) := by rw [HA.out]; rfl
    have cb17 : CB[17]? = some (Value.int .u8 (b.host.b0.toNat : Int)) := by rw [HB.out]; rfl
    have ca18 : CA[18]? = some (Value.int .u8 (a.host.b1.toNat : Int)) := by rw [HA.out]; rfl
    have cb18 : CB[18]? = some (Value.int .u8 (b.host.b1.toNat : Int)) := by rw [HB.out]; rfl
    have ca19 : CA[19]? = some (Value.int .u8 (a.host.b2.toNat : Int)) := by rw [HA.out]; rfl
    have cb19 : CB[19]? = some (Value.int .u8 (b.host.b2.toNat : Int)) := by rw [HB.out]; rfl
    have ca20 : CA[20]? = some (Value.int .u8 (a.host.b3.toNat : Int)) := by rw [HA.out]; rfl
    have cb20 : CB[20]? = some (Value.int .u8 (b.host.b3.toNat : Int)) := by rw [HB.out]; rfl
    have ca21 : CA[21]? = some (Value.int .u8 (a.host.b4.toNat : Int)) := by rw [HA.out]; rfl
    have cb21 : CB[21]? = some (Value.int .u8 (b.host.b4.toNat : Int)) := by rw [HB.out]; rfl
    have ca22 : CA[22]? = some (Value.int .u8 (a.host.b5.toNat : Int)) := by rw [HA.out]; rfl
    have cb22 : CB[22]? = some (Value.int .u8 (b.host.b5.toNat : Int)) := by rw [HB.out]; rfl
    refine ⟨.pointer (some ⟨w.heap.size, 17, none⟩), (.agg #[.int .u8 (a.host.b0.toNat : Int), .int .u8 (a.host.b1.toNat : Int), .int .u8 (a.host.b2.toNat : Int), .int .u8 (a.host.b3.toNat : Int), .int .u8 (a.host.b4.toNat : Int), .int .u8 (a.host.b5.toNat : Int)]), .pointer (some ⟨w.heap.size + 1, 17, none⟩), (.agg #[.int .u8 (b.host.b0.toNat : Int), .int .u8 (b.host.b1.toNat : Int), .int .u8 (b.host.b2.toNat : Int), .int .u8 (b.host.b3.toNat : Int), .int .u8 (b.host.b4.toNat : Int), .int .u8 (b.host.b5.toNat : Int)]), ?_, ?_, ?_, ?_, .inl ⟨?_, q5, rfl⟩⟩
    · intro ρ h; simp only [execOp, h]; go_simp
    · intro ρ h; simp only [execOp, h]; go_simp
    · intro ρ h; simp only [execOp, h]; go_simp
    · intro ρ h; simp only [execOp, h]; go_simp
    · intro ρ h1 h2; simp only [execOp, h1, h2]; go_simp
  rintro a5 _ hinv ⟨q6, rfl⟩
  refine chain_test (i := 40) (s1 := 46) (s2 := 47) (s3 := 48) (s4 := 49) (s5 := 50) (s6 := 51) (d' := 52) (e' := decide (a.pool = b.pool)) (R := (fun w' => ∃ q, w' = (((w.alloc (.cells CA 33)).alloc (.cells CB 33)).drewN q))) hinv rfl rfl rfl rfl rfl rfl rfl rfl rfl rfl rfl rfl rfl rfl rfl rfl rfl (.inl rfl) ?_ ⟨q6, rfl⟩ ?_
  ·
    have ca23 : CA[23]? = some (Value.slice P a.pool.length p) := by rw [HA.out]; rfl
    have cb23 : CB[23]? = some (Value.slice P' b.pool.length p') := by rw [HB.out]; rfl
    refine ⟨.pointer (some ⟨w.heap.size, 23, none⟩), (.slice P a.pool.length p), .pointer (some ⟨w.heap.size + 1, 23, none⟩), (.slice P' b.pool.length p'), ?_, ?_, ?_, ?_, .inr ⟨54, ?_, (nums_ok P P' p p' _ _ _ (HH.out.1 q6) (HH.out.2.2.2.1 q6) la).mono (fun e w' ⟨h1, n1, h2⟩ => ⟨h1, q6 + n1, by rw [h2]; exact World.drewN_drewN ..⟩)⟩⟩
    · intro ρ h; simp only [execOp, h]; go_simp
    · intro ρ h; simp only [execOp, h]; go_simp
    · intro ρ h; simp only [execOp, h]; go_simp
    · intro ρ h; simp only [execOp, h]; go_simp
    · intro ρ hf h1 h2; simp only [execOp, resolve, hf]; go_simp
  rintro a6 _ hinv ⟨q7, rfl⟩
  refine chain_test (i := 47) (s1 := 53) (s2 := 54) (s3 := 55) (s4 := 56) (s5 := 57) (s6 := 58) (d' := 59) (e' := ((a.lo : Int) == b.lo)) (R := (fun w' => ∃ q, w' = (((w.alloc (.cells CA 33)).alloc (.cells CB 33)).drewN q))) hinv rfl rfl rfl rfl rfl rfl rfl rfl rfl rfl rfl rfl rfl rfl rfl rfl rfl (.inl rfl) ?_ ⟨q7, rfl⟩ ?_
  ·
    have ca24 : CA[24]? = some (Value.int .u16 (a.lo : Int)) := by rw [HA.out]; rfl
    have cb24 : CB[24]? = some (Value.int .u16 (b.lo : Int)) := by rw [HB.out]; rfl
    refine ⟨.pointer (some ⟨w.heap.size, 24, none⟩), (.int .u16 (a.lo : Int)), .pointer (some ⟨w.heap.size + 1, 24, none⟩), (.int .u16 (b.lo : Int)), ?_, ?_, ?_, ?_, .inl ⟨?_, q7, rfl⟩⟩
    · intro ρ h; simp only [execOp, h]; go_simp
    · intro ρ h; simp only [execOp, h]; go_simp
    · intro ρ h; simp only [execOp, h]; go_simp
    · intro ρ h; simp only [execOp, h]; go_simp
    · intro ρ h1 h2; simp only [execOp, h1, h2]; go_simp
  rintro a7 _ hinv ⟨q8, rfl⟩
  refine chain_test (i := 54) (s1 := 60) (s2 := 61) (s3 := 62) (s4 := 63) (s5 := 64) (s6 := 65) (d' := 66) (e' := ((a.hi : Int) == b.hi)) (R := (fun w' => ∃ q, w' = (((w.alloc (.cells CA 33)).alloc (.cells CB 33)).drewN q))) hinv rfl rfl rfl rfl rfl rfl rfl rfl rfl rfl rfl rfl rfl rfl rfl rfl rfl (.inl rfl) ?_ ⟨q8, rfl⟩ ?_
  ·
    have ca25 : CA[25]? = some (Value.int .u16 (a.hi : Int)) := by rw [HA.out]; rfl
    have cb25 : CB[25]? = some (Value.int .u16 (b.hi : Int)) := by rw [HB.out]; rfl
    refine ⟨.pointer (some ⟨w.heap.size, 25, none⟩), (.int .u16 (a.hi : Int)), .pointer (some ⟨w.heap.size + 1, 25, none⟩), (.int .u16 (b.hi : Int)), ?_, ?_, ?_, ?_, .inl ⟨?_, q8, rfl⟩⟩
    · intro ρ h; simp only [execOp, h]; go_simp
    · intro ρ h; simp only [execOp, h]; go_simp
    · intro ρ h; simp only [execOp, h]; go_simp
    · intro ρ h; simp only [execOp, h]; go_simp
    · intro ρ h1 h2; simp only [execOp, h1, h2]; go_simp
  rintro a8 _ hinv ⟨q9, rfl⟩
  refine chain_test (i := 61) (s1 := 67) (s2 := 68) (s3 := 69) (s4 := 70) (s5 := 71) (s6 := 72) (d' := 73) (e' := (a.filter == b.filter)) (R := (fun w' => ∃ q, w' = (((w.alloc (.cells CA 33)).alloc (.cells CB 33)).drewN q))) hinv rfl rfl rfl rfl rfl rfl rfl rfl rfl rfl rfl rfl rfl rfl rfl rfl rfl (.inl rfl) ?_ ⟨q9, rfl⟩ ?_
  ·
    have ca26 : CA[26]? = some (Value.int .i64 a.filter) := by rw [HA.out]; rfl
    have cb26 : CB[26]? = some (Value.int .i64 b.filter) := by rw [HB.out]; rfl
    refine ⟨.pointer (some ⟨w.heap.size, 26, none⟩), (.int .i64 a.filter), .pointer (some ⟨w.heap.size + 1, 26, none⟩), (.int .i64 b.filter), ?_, ?_, ?_, ?_, .inl ⟨?_, q9, rfl⟩⟩
    · intro ρ h; simp only [execOp, h]; go_simp
    · intro ρ h; simp only [execOp, h]; go_simp
    · intro ρ h; simp only [execOp, h]; go_simp
    · intro ρ h; simp only [execOp, h]; go_simp
    · intro ρ h1 h2; simp only [execOp, h1, h2]; go_simp
  rintro a9 _ hinv ⟨q10, rfl⟩
  refine chain_test (i := 68) (s1 := 74) (s2 := 75) (s3 := 76) (s4 := 77) (s5 := 78) (s6 := 79) (d' := 80) (e' := decide (a.statics = b.statics)) (R := (fun w' => ∃ q, w' = (((w.alloc (.cells CA 33)).alloc (.cells CB 33)).drewN q))) hinv rfl rfl rfl rfl rfl rfl rfl rfl rfl rfl rfl rfl rfl rfl rfl rfl rfl (.inl rfl) ?_ ⟨q10, rfl⟩ ?_
  ·
    have ca27 : CA[27]? = some (Value.slice Q a.statics.length q) := by rw [HA.out]; rfl
    have cb27 : CB[27]? = some (Value.slice Q' b.statics.length q') := by rw [HB.out]; rfl
    refine ⟨.pointer (some ⟨w.heap.size, 27, none⟩), (.slice Q a.statics.length q), .pointer (some ⟨w.heap.size + 1, 27, none⟩), (.slice Q' b.statics.length q'), ?_, ?_, ?_, ?_, .inr ⟨55, ?_, (pairs_ok Q Q' q q' _ _ _ (HH.out.2.1 q10) (HH.out.2.2.2.2.1 q10) ls).mono (fun e w' ⟨h1, n1, h2⟩ => ⟨h1, q10 + n1, by rw [h2]; exact World.drewN_drewN ..⟩)⟩⟩
    · intro ρ h; simp only [execOp, h]; go_simp
    · intro ρ h; simp only [execOp, h]; go_simp
    · intro ρ h; simp only [execOp, h]; go_simp
    · intro ρ h; simp only [execOp, h]; go_simp
    · intro ρ hf h1 h2; simp only [execOp, resolve, hf]; go_simp
  rintro a10 _ hinv ⟨q11, rfl⟩
  refine chain_test (i := 75) (s1 := 81) (s2 := 82) (s3 := 83) (s4 := 84) (s5 := 85) (s6 := 86) (d' := 87) (e' := decide (a.twices = b.twices)) (R := (fun w' => ∃ q, w' = (((w.alloc (.cells CA 33)).alloc (.cells CB 33)).drewN q))) hinv rfl rfl rfl rfl rfl rfl rfl rfl rfl rfl rfl rfl rfl rfl rfl rfl rfl (.inl rfl) ?_ ⟨q11, rfl⟩ ?_
  ·
    have ca28 : CA[28]? = some (Value.slice R a.twices.length r) := by rw [HA.out]; rfl
    have cb28 : CB[28]? = some (Value.slice R' b.twices.length r') := by rw [HB.out]; rfl
    refine ⟨.pointer (some ⟨w.heap.size, 28, none⟩), (.slice R a.twices.length r), .pointer (some ⟨w.heap.size + 1, 28, none⟩), (.slice R' b.twices.length r'), ?_, ?_, ?_, ?_, .inr ⟨55, ?_, (pairs_ok R R' r r' _ _ _ (HH.out.2.2.1 q11) (HH.out.2.2.2.2.2.1 q11) lt).mono (fun e w' ⟨h1, n1, h2⟩ => ⟨h1, q11 + n1, by rw [h2]; exact World.drewN_drewN ..⟩)⟩⟩
    · intro ρ h; simp only [execOp, h]; go_simp
    · intro ρ h; simp only [execOp, h]; go_simp
    · intro ρ h; simp only [execOp, h]; go_simp
    · intro ρ h; simp only [execOp, h]; go_simp
    · intro ρ hf h1 h2; simp only [execOp, resolve, hf]; go_simp
  rintro a11 _ hinv ⟨q12, rfl⟩
  refine chain_test (i := 82) (s1 := 88) (s2 := 89) (s3 := 90) (s4 := 91) (s5 := 92) (s6 := 93) (d' := 94) (e' := (a.sess == b.sess)) (R := (fun w' => ∃ q, w' = (((w.alloc (.cells CA 33)).alloc (.cells CB 33)).drewN q))) hinv rfl rfl rfl rfl rfl rfl rfl rfl rfl rfl rfl rfl rfl rfl rfl rfl rfl (.inl rfl) ?_ ⟨q12, rfl⟩ ?_
  ·
    have ca29 : CA[29]? = some (Value.int .i64 a.sess) := by rw [HA.out]; rfl
    have cb29 : CB[29]? = some (Value.int .i64 b.sess) := by rw [HB.out]; rfl
    refine ⟨.pointer (some ⟨w.heap.size, 29, none⟩), (.int .i64 a.sess), .pointer (some ⟨w.heap.size + 1, 29, none⟩), (.int .i64 b.sess), ?_, ?_, ?_, ?_, .inl ⟨?_, q12, rfl⟩⟩
    · intro ρ h; simp only [execOp, h]; go_simp
    · intro ρ h; simp only [execOp, h]; go_simp
    · intro ρ h; simp only [execOp, h]; go_simp
    · intro ρ h; simp only [execOp, h]; go_simp
    · intro ρ h1 h2; simp only [execOp, h1, h2]; go_simp
  rintro a12 _ hinv ⟨q13, rfl⟩
  refine chain_test (i := 89) (s1 := 95) (s2 := 96) (s3 := 97) (s4 := 98) (s5 := 99) (s6 := 100) (d' := 101) (e' := (a.queue == b.queue)) (R := (fun w' => ∃ q, w' = (((w.alloc (.cells CA 33)).alloc (.cells CB 33)).drewN q))) hinv rfl rfl rfl rfl rfl rfl rfl rfl rfl rfl rfl rfl rfl rfl rfl rfl rfl (.inl rfl) ?_ ⟨q13, rfl⟩ ?_
  ·
    have ca30 : CA[30]? = some (Value.int .i64 a.queue) := by rw [HA.out]; rfl
    have cb30 : CB[30]? = some (Value.int .i64 b.queue) := by rw [HB.out]; rfl
    refine ⟨.pointer (some ⟨w.heap.size, 30, none⟩), (.int .i64 a.queue), .pointer (some ⟨w.heap.size + 1, 30, none⟩), (.int .i64 b.queue), ?_, ?_, ?_, ?_, .inl ⟨?_, q13, rfl⟩⟩
    · intro ρ h; simp only [execOp, h]; go_simp
    · intro ρ h; simp only [execOp, h]; go_simp
    · intro ρ h; simp only [execOp, h]; go_simp
    · intro ρ h; simp only [execOp, h]; go_simp
    · intro ρ h1 h2; simp only [execOp, h1, h2]; go_simp
  rintro a13 _ hinv ⟨q14, rfl⟩
  refine chain_test (i := 96) (s1 := 102) (s2 := 103) (s3 := 104) (s4 := 105) (s5 := 106) (s6 := 107) (d' := 108) (e' := ((a.rate : Int) == b.rate)) (R := (fun w' => ∃ q, w' = (((w.alloc (.cells CA 33)).alloc (.cells CB 33)).drewN q))) hinv rfl rfl rfl rfl rfl rfl rfl rfl rfl rfl rfl rfl rfl rfl rfl rfl rfl (.inl rfl) ?_ ⟨q14, rfl⟩ ?_
  ·
    have ca31 : CA[31]? = some (Value.int .u32 (a.rate : Int)) := by rw [HA.out]; rfl
    have cb31 : CB[31]? = some (Value.int .u32 (b.rate : Int)) := by rw [HB.out]; rfl
    refine ⟨.pointer (some ⟨w.heap.size, 31, none⟩), (.int .u32 (a.rate : Int)), .pointer (some ⟨w.heap.size + 1, 31, none⟩), (.int .u32 (b.rate : Int)), ?_, ?_, ?_, ?_, .inl ⟨?_, q14, rfl⟩⟩
    · intro ρ h; simp only [execOp, h]; go_simp
    · intro ρ h; simp only [execOp, h]; go_simp
    · intro ρ h; simp only [execOp, h]; go_simp
    · intro ρ h; simp only [execOp, h]; go_simp
    · intro ρ h1 h2; simp only [execOp, h1, h2]; go_simp
  rintro a14 _ hinv ⟨q15, rfl⟩
  refine chain_test (i := 103) (s1 := 109) (s2 := 110) (s3 := 111) (s4 := 112) (s5 := 113) (s6 := 114) (d' := 4) (e' := ((a.burst : Int) == b.burst)) (R := (fun w' => ∃ q, w' = (((w.alloc (.cells CA 33)).alloc (.cells CB 33)).drewN q))) hinv rfl rfl rfl rfl rfl rfl rfl rfl rfl rfl rfl rfl rfl rfl rfl rfl rfl (.inr rfl) ?_ ⟨q15, rfl⟩ ?_
  ·
    have ca32 : CA[32]? = some (Value.int .u32 (a.burst : Int)) := by rw [HA.out]; rfl
    have cb32 : CB[32]? = some (Value.int .u32 (b.burst : Int)) := by rw [HB.out]; rfl
    refine ⟨.pointer (some ⟨w.heap.size, 32, none⟩), (.int .u32 (a.burst : Int)), .pointer (some ⟨w.heap.size + 1, 32, none⟩), (.int .u32 (b.burst : Int)), ?_, ?_, ?_, ?_, .inl ⟨?_, q15, rfl⟩⟩
    · intro ρ h; simp only [execOp, h]; go_simp
    · intro ρ h; simp only [execOp, h]; go_simp
    · intro ρ h; simp only [execOp, h]; go_simp
    · intro ρ h; simp only [execOp, h]; go_simp
    · intro ρ h1 h2; simp only [execOp, h1, h2]; go_simp
  rintro ⟨tm, df⟩ _ hinv ⟨q16, rfl⟩
  refine wpList_nil ?_
  have hres := hinv.tb
  obtain rfl : df = [] := hinv.defers
  clear hinv
  go_wp2
  go_ret
  refine ⟨?_, HM.out _⟩
  have : tm.getD 4 undef = .bool (decide (a = b)) := by
    rw [Array.getD_eq_getD_getElem?, hres, ← ten_beq a b]
    rfl
  rw [← this]
end

section
attribute [local go_sem] stPair gtPair gtK8 gtM6
attribute [local go_sem high] neqPair eqK8 eqM6
open Go.RowKit
set_option linter.unusedVariables false
/-- Two boxes: the coder's address, the tenant's. -/
structure Boxes (w : World) (bc bt C T o : Nat) : Prop where
  c : w.heap[bc]? = some (.cells #[.pointer (some ⟨C, 0, none⟩)] 98 (0, 0))
  t : w.heap[bt]? = some (.cells #[.pointer (some ⟨T, o, none⟩)] 102 (0, 0))
set_option maxRecDepth 100000 in
theorem ten_vni_rd {S : Nat → Prop} {w : World} {C : Nat} {A : Option Addr} {c at_ : Nat} {sh : Bool} (B : List UInt8) (hb : w.heap[C]? = some (rdObj A B.length c at_ sh)) (hrow : RowAt S w A (bcells B)) (hat : at_ ≤ B.length) (hc : B.length ≤ c) (hB : B.length ≤ 100000000) (hS : ¬ S C) {bc bt T o : Nat} (hx : Boxes w bc bt C T o)
    {cs : Array Value} {t : TypeId} (hT : w.heap[T]? = some (.cells cs t (0, 0))) (ho : o + 1 < cs.size) (h1 : T ≠ C) :
    Calls Try.prog 59 #[.pointer (some ⟨bc, 0, none⟩), .pointer (some ⟨bt, 0, none⟩)] w fun e w' => e = .returned (.tuple #[]) ∧ w'.heap[C]? = some (rdObj A B.length c (rtake B (at_, sh) 4).2.1 (rtake B (at_, sh) 4).2.2) ∧
      w'.heap[T]? = some (.cells (cs.setIfInBounds (o + 1) (.int .u32 (beval (rtake B (at_, sh) 4).1))) t (0, 0)) ∧ Mod (fun b => b = C ∨ b = T) w w' := by
  have hd : ∀ W, W = w.drew → Calls Try.prog 57 #[.pointer (some ⟨C, 0, none⟩), .int .i64 4, .pointer (some ⟨T, o + 1, none⟩)] W fun e w' => e = .returned (.tuple #[]) ∧ w'.heap[C]? = some (rdObj A B.length c (rtake B (at_, sh) 4).2.1 (rtake B (at_, sh) 4).2.2) ∧
      w'.heap[T]? = some (.cells (cs.setIfInBounds (o + 1) (.int .u32 (beval (rtake B (at_, sh) 4).1))) t (0, 0)) ∧ Mod (fun b => b = C ∨ b = T) w w' := by
    intro W hW
    subst hW
    exact (num_u32_rd (w := w.drew) B hb (hrow.keeps (Mod.keeps (Mod.drew (Mod.refl No w)) (fun _ _ _ f => f))) hat hc hB 4 (by decide) hS hT ho h1).mono fun e w' ⟨e1, e2, e3, e4⟩ => ⟨e1, e2, e3, (Mod.refl _ w).drew.trans e4⟩
  have c0 := blk_cell hx.c 0
  have c1 := blk_cell hx.t 0
  simp at c0 c1
  obtain ⟨R, hR⟩ : ∃ R : World → Prop, R = fun w' => w'.heap[C]? = some (rdObj A B.length c (rtake B (at_, sh) 4).2.1 (rtake B (at_, sh) 4).2.2) ∧
      w'.heap[T]? = some (.cells (cs.setIfInBounds (o + 1) (.int .u32 (beval (rtake B (at_, sh) 4).1))) t (0, 0)) ∧ Mod (fun b => b = C ∨ b = T) w w' := ⟨_, rfl⟩
  have hd' : ∀ W, W = w.drew → Calls Try.prog 57 #[.pointer (some ⟨C, 0, none⟩), .int .i64 4, .pointer (some ⟨T, o + 1, none⟩)] W fun e w' => e = .returned (.tuple #[]) ∧ R w' := by
    rw [hR]; exact hd
  suffices hs : Calls Try.prog 59 #[.pointer (some ⟨bc, 0, none⟩), .pointer (some ⟨bt, 0, none⟩)] w fun e w' => e = .returned (.tuple #[]) ∧ R w' by
    rw [hR] at hs; exact hs
  have HD := Lib.hid hd'
  clear hb hrow hat hc hB hS hx hT ho hd hd' hR
  go_enter Try.func59, Try.ntmps59
  go_wp2_with fail
  go_region_law (first | (go_simp; go_at_call 57; refine (HD.out _ rfl).mono ?_; rintro e w1 ⟨rfl, hr⟩; have HW := Lib.hid hr; clear hr))
  all_goals
    go_wp2
    first | go_end0 | (simp only [Exit.inBlock, Exit.then]; refine bodyPost_ret (results_none rfl _ _ _) rfl ?_) | refine bodyPost_ret (results_none rfl _ _ _) rfl ?_
    exact ⟨rfl, HW.out⟩
set_option maxRecDepth 100000 in
theorem ten_vtep_rd {S : Nat → Prop} {w : World} {C : Nat} {A : Option Addr} {c at_ : Nat} {sh : Bool} (B : List UInt8) (hb : w.heap[C]? = some (rdObj A B.length c at_ sh)) (hrow : RowAt S w A (bcells B)) (hat : at_ ≤ B.length) (hc : B.length ≤ c) (hB : B.length ≤ 100000000) (hS : ¬ S C) {bc bt T o : Nat} (hx : Boxes w bc bt C T o)
    {cs : Array Value} {t : TypeId} (hT : w.heap[T]? = some (.cells cs t (0, 0))) (ho : o + 10 < cs.size) (h1 : T ≠ C) :
    Calls Try.prog 62 #[.pointer (some ⟨bc, 0, none⟩), .pointer (some ⟨bt, 0, none⟩)] w fun e w' => e = .returned (.tuple #[]) ∧ w'.heap[C]? = some (rdObj A B.length c (rtake B (at_, sh) 4).2.1 (rtake B (at_, sh) 4).2.2) ∧
      w'.heap[T]? = some (.cells (cs.setIfInBounds (o + 10) (.int .u32 (beval (rtake B (at_, sh) 4).1))) t (0, 0)) ∧ Mod (fun b => b = C ∨ b = T) w w' := by
  have hd : ∀ W, W = w.drew → Calls Try.prog 57 #[.pointer (some ⟨C, 0, none⟩), .int .i64 4, .pointer (some ⟨T, o + 10, none⟩)] W fun e w' => e = .returned (.tuple #[]) ∧ w'.heap[C]? = some (rdObj A B.length c (rtake B (at_, sh) 4).2.1 (rtake B (at_, sh) 4).2.2) ∧
      w'.heap[T]? = some (.cells (cs.setIfInBounds (o + 10) (.int .u32 (beval (rtake B (at_, sh) 4).1))) t (0, 0)) ∧ Mod (fun b => b = C ∨ b = T) w w' := by
    intro W hW
    subst hW
    exact (num_u32_rd (w := w.drew) B hb (hrow.keeps (Mod.keeps (Mod.drew (Mod.refl No w)) (fun _ _ _ f => f))) hat hc hB 4 (by decide) hS hT ho h1).mono fun e w' ⟨e1, e2, e3, e4⟩ => ⟨e1, e2, e3, (Mod.refl _ w).drew.trans e4⟩
  have c0 := blk_cell hx.c 0
  have c1 := blk_cell hx.t 0
  simp at c0 c1
  obtain ⟨R, hR⟩ : ∃ R : World → Prop, R = fun w' => w'.heap[C]? = some (rdObj A B.length c (rtake B (at_, sh) 4).2.1 (rtake B (at_, sh) 4).2.2) ∧
      w'.heap[T]? = some (.cells (cs.setIfInBounds (o + 10) (.int .u32 (beval (rtake B (at_, sh) 4).1))) t (0, 0)) ∧ Mod (fun b => b = C ∨ b = T) w w' := ⟨_, rfl⟩
  have hd' : ∀ W, W = w.drew → Calls Try.prog 57 #[.pointer (some ⟨C, 0, none⟩), .int .i64 4, .pointer (some ⟨T, o + 10, none⟩)] W fun e w' => e = .returned (.tuple #[]) ∧ R w' := by
    rw [hR]; exact hd
  suffices hs : Calls Try.prog 62 #[.pointer (some ⟨bc, 0, none⟩), .pointer (some ⟨bt, 0, none⟩)] w fun e w' => e = .returned (.tuple #[]) ∧ R w' by
    rw [hR] at hs; exact hs
  have HD := Lib.hid hd'
  clear hb hrow hat hc hB hS hx hT ho hd hd' hR
  go_enter Try.func62, Try.ntmps62
  go_wp2_with fail
  go_region_law (first | (go_simp; go_at_call 57; refine (HD.out _ rfl).mono ?_; rintro e w1 ⟨rfl, hr⟩; have HW := Lib.hid hr; clear hr))
  all_goals
    go_wp2
    first | go_end0 | (simp only [Exit.inBlock, Exit.then]; refine bodyPost_ret (results_none rfl _ _ _) rfl ?_) | refine bodyPost_ret (results_none rfl _ _ _) rfl ?_
    exact ⟨rfl, HW.out⟩
set_option maxRecDepth 100000 in
theorem ten_lo_rd {S : Nat → Prop} {w : World} {C : Nat} {A : Option Addr} {c at_ : Nat} {sh : Bool} (B : List UInt8) (hb : w.heap[C]? = some (rdObj A B.length c at_ sh)) (hrow : RowAt S w A (bcells B)) (hat : at_ ≤ B.length) (hc : B.length ≤ c) (hB : B.length ≤ 100000000) (hS : ¬ S C) {bc bt T o : Nat} (hx : Boxes w bc bt C T o)
    {cs : Array Value} {t : TypeId} (hT : w.heap[T]? = some (.cells cs t (0, 0))) (ho : o + 24 < cs.size) (h1 : T ≠ C) :
    Calls Try.prog 65 #[.pointer (some ⟨bc, 0, none⟩), .pointer (some ⟨bt, 0, none⟩)] w fun e w' => e = .returned (.tuple #[]) ∧ w'.heap[C]? = some (rdObj A B.length c (rtake B (at_, sh) 2).2.1 (rtake B (at_, sh) 2).2.2) ∧
      w'.heap[T]? = some (.cells (cs.setIfInBounds (o + 24) (.int .u16 (beval (rtake B (at_, sh) 2).1))) t (0, 0)) ∧ Mod (fun b => b = C ∨ b = T) w w' := by
  have hd : ∀ W, W = w.drew → Calls Try.prog 66 #[.pointer (some ⟨C, 0, none⟩), .int .i64 2, .pointer (some ⟨T, o + 24, none⟩)] W fun e w' => e = .returned (.tuple #[]) ∧ w'.heap[C]? = some (rdObj A B.length c (rtake B (at_, sh) 2).2.1 (rtake B (at_, sh) 2).2.2) ∧
      w'.heap[T]? = some (.cells (cs.setIfInBounds (o + 24) (.int .u16 (beval (rtake B (at_, sh) 2).1))) t (0, 0)) ∧ Mod (fun b => b = C ∨ b = T) w w' := by
    intro W hW
    subst hW
    exact (num_u16_rd (w := w.drew) B hb (hrow.keeps (Mod.keeps (Mod.drew (Mod.refl No w)) (fun _ _ _ f => f))) hat hc hB 2 (by decide) hS hT ho h1).mono fun e w' ⟨e1, e2, e3, e4⟩ => ⟨e1, e2, e3, (Mod.refl _ w).drew.trans e4⟩
  have c0 := blk_cell hx.c 0
  have c1 := blk_cell hx.t 0
  simp at c0 c1
  obtain ⟨R, hR⟩ : ∃ R : World → Prop, R = fun w' => w'.heap[C]? = some (rdObj A B.length c (rtake B (at_, sh) 2).2.1 (rtake B (at_, sh) 2).2.2) ∧
      w'.heap[T]? = some (.cells (cs.setIfInBounds (o + 24) (.int .u16 (beval (rtake B (at_, sh) 2).1))) t (0, 0)) ∧ Mod (fun b => b = C ∨ b = T) w w' := ⟨_, rfl⟩
  have hd' : ∀ W, W = w.drew → Calls Try.prog 66 #[.pointer (some ⟨C, 0, none⟩), .int .i64 2, .pointer (some ⟨T, o + 24, none⟩)] W fun e w' => e = .returned (.tuple #[]) ∧ R w' := by
    rw [hR]; exact hd
  suffices hs : Calls Try.prog 65 #[.pointer (some ⟨bc, 0, none⟩), .pointer (some ⟨bt, 0, none⟩)] w fun e w' => e = .returned (.tuple #[]) ∧ R w' by
    rw [hR] at hs; exact hs
  have HD := Lib.hid hd'
  clear hb hrow hat hc hB hS hx hT ho hd hd' hR
  go_enter Try.func65, Try.ntmps65
  go_wp2_with fail
  go_region_law (first | (go_simp; go_at_call 66; refine (HD.out _ rfl).mono ?_; rintro e w1 ⟨rfl, hr⟩; have HW := Lib.hid hr; clear hr))
  all_goals
    go_wp2
    first | go_end0 | (simp only [Exit.inBlock, Exit.then]; refine bodyPost_ret (results_none rfl _ _ _) rfl ?_) | refine bodyPost_ret (results_none rfl _ _ _) rfl ?_
    exact ⟨rfl, HW.out⟩
set_option maxRecDepth 100000 in
theorem ten_hi_rd {S : Nat → Prop} {w : World} {C : Nat} {A : Option Addr} {c at_ : Nat} {sh : Bool} (B : List UInt8) (hb : w.heap[C]? = some (rdObj A B.length c at_ sh)) (hrow : RowAt S w A (bcells B)) (hat : at_ ≤ B.length) (hc : B.length ≤ c) (hB : B.length ≤ 100000000) (hS : ¬ S C) {bc bt T o : Nat} (hx : Boxes w bc bt C T o)
    {cs : Array Value} {t : TypeId} (hT : w.heap[T]? = some (.cells cs t (0, 0))) (ho : o + 25 < cs.size) (h1 : T ≠ C) :
    Calls Try.prog 67 #[.pointer (some ⟨bc, 0, none⟩), .pointer (some ⟨bt, 0, none⟩)] w fun e w' => e = .returned (.tuple #[]) ∧ w'.heap[C]? = some (rdObj A B.length c (rtake B (at_, sh) 2).2.1 (rtake B (at_, sh) 2).2.2) ∧
      w'.heap[T]? = some (.cells (cs.setIfInBounds (o + 25) (.int .u16 (beval (rtake B (at_, sh) 2).1))) t (0, 0)) ∧ Mod (fun b => b = C ∨ b = T) w w' := by
  have hd : ∀ W, W = w.drew → Calls Try.prog 66 #[.pointer (some ⟨C, 0, none⟩), .int .i64 2, .pointer (some ⟨T, o + 25, none⟩)] W fun e w' => e = .returned (.tuple #[]) ∧ w'.heap[C]? = some (rdObj A B.length c (rtake B (at_, sh) 2).2.1 (rtake B (at_, sh) 2).2.2) ∧
      w'.heap[T]? = some (.cells (cs.setIfInBounds (o + 25) (.int .u16 (beval (rtake B (at_, sh) 2).1))) t (0, 0)) ∧ Mod (fun b => b = C ∨ b = T) w w' := by
    intro W hW
    subst hW
    exact (num_u16_rd (w := w.drew) B hb (hrow.keeps (Mod.keeps (Mod.drew (Mod.refl No w)) (fun _ _ _ f => f))) hat hc hB 2 (by decide) hS hT ho h1).mono fun e w' ⟨e1, e2, e3, e4⟩ => ⟨e1, e2, e3, (Mod.refl _ w).drew.trans e4⟩
  have c0 := blk_cell hx.c 0
  have c1 := blk_cell hx.t 0
  simp at c0 c1
  obtain ⟨R, hR⟩ : ∃ R : World → Prop, R = fun w' => w'.heap[C]? = some (rdObj A B.length c (rtake B (at_, sh) 2).2.1 (rtake B (at_, sh) 2).2.2) ∧
      w'.heap[T]? = some (.cells (cs.setIfInBounds (o + 25) (.int .u16 (beval (rtake B (at_, sh) 2).1))) t (0, 0)) ∧ Mod (fun b => b = C ∨ b = T) w w' := ⟨_, rfl⟩
  have hd' : ∀ W, W = w.drew → Calls Try.prog 66 #[.pointer (some ⟨C, 0, none⟩), .int .i64 2, .pointer (some ⟨T, o + 25, none⟩)] W fun e w' => e = .returned (.tuple #[]) ∧ R w' := by
    rw [hR]; exact hd
  suffices hs : Calls Try.prog 67 #[.pointer (some ⟨bc, 0, none⟩), .pointer (some ⟨bt, 0, none⟩)] w fun e w' => e = .returned (.tuple #[]) ∧ R w' by
    rw [hR] at hs; exact hs
  have HD := Lib.hid hd'
  clear hb hrow hat hc hB hS hx hT ho hd hd' hR
  go_enter Try.func67, Try.ntmps67
  go_wp2_with fail
  go_region_law (first | (go_simp; go_at_call 66; refine (HD.out _ rfl).mono ?_; rintro e w1 ⟨rfl, hr⟩; have HW := Lib.hid hr; clear hr))
  all_goals
    go_wp2
    first | go_end0 | (simp only [Exit.inBlock, Exit.then]; refine bodyPost_ret (results_none rfl _ _ _) rfl ?_) | refine bodyPost_ret (results_none rfl _ _ _) rfl ?_
    exact ⟨rfl, HW.out⟩
set_option maxRecDepth 100000 in
theorem ten_filter_rd {S : Nat → Prop} {w : World} {C : Nat} {A : Option Addr} {c at_ : Nat} {sh : Bool} (B : List UInt8) (hb : w.heap[C]? = some (rdObj A B.length c at_ sh)) (hrow : RowAt S w A (bcells B)) (hat : at_ ≤ B.length) (hc : B.length ≤ c) (hB : B.length ≤ 100000000) (hS : ¬ S C) {bc bt T o : Nat} (hx : Boxes w bc bt C T o)
    {cs : Array Value} {t : TypeId} (hT : w.heap[T]? = some (.cells cs t (0, 0))) (ho : o + 26 < cs.size) (h1 : T ≠ C) :
    Calls Try.prog 68 #[.pointer (some ⟨bc, 0, none⟩), .pointer (some ⟨bt, 0, none⟩)] w fun e w' => e = .returned (.tuple #[]) ∧ w'.heap[C]? = some (rdObj A B.length c (rtake B (at_, sh) 1).2.1 (rtake B (at_, sh) 1).2.2) ∧
      w'.heap[T]? = some (.cells (cs.setIfInBounds (o + 26) (.int .i64 (beval (rtake B (at_, sh) 1).1))) t (0, 0)) ∧ Mod (fun b => b = C ∨ b = T) w w' := by
  have hd : ∀ W, W = w.drew → Calls Try.prog 69 #[.pointer (some ⟨C, 0, none⟩), .int .i64 1, .pointer (some ⟨T, o + 26, none⟩)] W fun e w' => e = .returned (.tuple #[]) ∧ w'.heap[C]? = some (rdObj A B.length c (rtake B (at_, sh) 1).2.1 (rtake B (at_, sh) 1).2.2) ∧
      w'.heap[T]? = some (.cells (cs.setIfInBounds (o + 26) (.int .i64 (beval (rtake B (at_, sh) 1).1))) t (0, 0)) ∧ Mod (fun b => b = C ∨ b = T) w w' := by
    intro W hW
    subst hW
    exact (num_i64_rd (w := w.drew) B hb (hrow.keeps (Mod.keeps (Mod.drew (Mod.refl No w)) (fun _ _ _ f => f))) hat hc hB 1 (by decide) hS hT ho h1).mono fun e w' ⟨e1, e2, e3, e4⟩ => ⟨e1, e2, e3, (Mod.refl _ w).drew.trans e4⟩
  have c0 := blk_cell hx.c 0
  have c1 := blk_cell hx.t 0
  simp at c0 c1
  obtain ⟨R, hR⟩ : ∃ R : World → Prop, R = fun w' => w'.heap[C]? = some (rdObj A B.length c (rtake B (at_, sh) 1).2.1 (rtake B (at_, sh) 1).2.2) ∧
      w'.heap[T]? = some (.cells (cs.setIfInBounds (o + 26) (.int .i64 (beval (rtake B (at_, sh) 1).1))) t (0, 0)) ∧ Mod (fun b => b = C ∨ b = T) w w' := ⟨_, rfl⟩
  have hd' : ∀ W, W = w.drew → Calls Try.prog 69 #[.pointer (some ⟨C, 0, none⟩), .int .i64 1, .pointer (some ⟨T, o + 26, none⟩)] W fun e w' => e = .returned (.tuple #[]) ∧ R w' := by
    rw [hR]; exact hd
  suffices hs : Calls Try.prog 68 #[.pointer (some ⟨bc, 0, none⟩), .pointer (some ⟨bt, 0, none⟩)] w fun e w' => e = .returned (.tuple #[]) ∧ R w' by
    rw [hR] at hs; exact hs
  have HD := Lib.hid hd'
  clear hb hrow hat hc hB hS hx hT ho hd hd' hR
  go_enter Try.func68, Try.ntmps68
  go_wp2_with fail
  go_region_law (first | (go_simp; go_at_call 69; refine (HD.out _ rfl).mono ?_; rintro e w1 ⟨rfl, hr⟩; have HW := Lib.hid hr; clear hr))
  all_goals
    go_wp2
    first | go_end0 | (simp only [Exit.inBlock, Exit.then]; refine bodyPost_ret (results_none rfl _ _ _) rfl ?_) | refine bodyPost_ret (results_none rfl _ _ _) rfl ?_
    exact ⟨rfl, HW.out⟩
set_option maxRecDepth 100000 in
theorem ten_sess_rd {S : Nat → Prop} {w : World} {C : Nat} {A : Option Addr} {c at_ : Nat} {sh : Bool} (B : List UInt8) (hb : w.heap[C]? = some (rdObj A B.length c at_ sh)) (hrow : RowAt S w A (bcells B)) (hat : at_ ≤ B.length) (hc : B.length ≤ c) (hB : B.length ≤ 100000000) (hS : ¬ S C) {bc bt T o : Nat} (hx : Boxes w bc bt C T o)
    {cs : Array Value} {t : TypeId} (hT : w.heap[T]? = some (.cells cs t (0, 0))) (ho : o + 29 < cs.size) (h1 : T ≠ C) :
    Calls Try.prog 70 #[.pointer (some ⟨bc, 0, none⟩), .pointer (some ⟨bt, 0, none⟩)] w fun e w' => e = .returned (.tuple #[]) ∧ w'.heap[C]? = some (rdObj A B.length c (rtake B (at_, sh) 2).2.1 (rtake B (at_, sh) 2).2.2) ∧
      w'.heap[T]? = some (.cells (cs.setIfInBounds (o + 29) (.int .i64 (beval (rtake B (at_, sh) 2).1))) t (0, 0)) ∧ Mod (fun b => b = C ∨ b = T) w w' := by
  have hd : ∀ W, W = w.drew → Calls Try.prog 69 #[.pointer (some ⟨C, 0, none⟩), .int .i64 2, .pointer (some ⟨T, o + 29, none⟩)] W fun e w' => e = .returned (.tuple #[]) ∧ w'.heap[C]? = some (rdObj A B.length c (rtake B (at_, sh) 2).2.1 (rtake B (at_, sh) 2).2.2) ∧
      w'.heap[T]? = some (.cells (cs.setIfInBounds (o + 29) (.int .i64 (beval (rtake B (at_, sh) 2).1))) t (0, 0)) ∧ Mod (fun b => b = C ∨ b = T) w w' := by
    intro W hW
    subst hW
    exact (num_i64_rd (w := w.drew) B hb (hrow.keeps (Mod.keeps (Mod.drew (Mod.refl No w)) (fun _ _ _ f => f))) hat hc hB 2 (by decide) hS hT ho h1).mono fun e w' ⟨e1, e2, e3, e4⟩ => ⟨e1, e2, e3, (Mod.refl _ w).drew.trans e4⟩
  have c0 := blk_cell hx.c 0
  have c1 := blk_cell hx.t 0
  simp at c0 c1
  obtain ⟨R, hR⟩ : ∃ R : World → Prop, R = fun w' => w'.heap[C]? = some (rdObj A B.length c (rtake B (at_, sh) 2).2.1 (rtake B (at_, sh) 2).2.2) ∧
      w'.heap[T]? = some (.cells (cs.setIfInBounds (o + 29) (.int .i64 (beval (rtake B (at_, sh) 2).1))) t (0, 0)) ∧ Mod (fun b => b = C ∨ b = T) w w' := ⟨_, rfl⟩
  have hd' : ∀ W, W = w.drew → Calls Try.prog 69 #[.pointer (some ⟨C, 0, none⟩), .int .i64 2, .pointer (some ⟨T, o + 29, none⟩)] W fun e w' => e = .returned (.tuple #[]) ∧ R w' := by
    rw [hR]; exact hd
  suffices hs : Calls Try.prog 70 #[.pointer (some ⟨bc, 0, none⟩), .pointer (some ⟨bt, 0, none⟩)] w fun e w' => e = .returned (.tuple #[]) ∧ R w' by
    rw [hR] at hs; exact hs
  have HD := Lib.hid hd'
  clear hb hrow hat hc hB hS hx hT ho hd hd' hR
  go_enter Try.func70, Try.ntmps70
  go_wp2_with fail
  go_region_law (first | (go_simp; go_at_call 69; refine (HD.out _ rfl).mono ?_; rintro e w1 ⟨rfl, hr⟩; have HW := Lib.hid hr; clear hr))
  all_goals
    go_wp2
    first | go_end0 | (simp only [Exit.inBlock, Exit.then]; refine bodyPost_ret (results_none rfl _ _ _) rfl ?_) | refine bodyPost_ret (results_none rfl _ _ _) rfl ?_
    exact ⟨rfl, HW.out⟩
set_option maxRecDepth 100000 in
theorem ten_queue_rd {S : Nat → Prop} {w : World} {C : Nat} {A : Option Addr} {c at_ : Nat} {sh : Bool} (B : List UInt8) (hb : w.heap[C]? = some (rdObj A B.length c at_ sh)) (hrow : RowAt S w A (bcells B)) (hat : at_ ≤ B.length) (hc : B.length ≤ c) (hB : B.length ≤ 100000000) (hS : ¬ S C) {bc bt T o : Nat} (hx : Boxes w bc bt C T o)
    {cs : Array Value} {t : TypeId} (hT : w.heap[T]? = some (.cells cs t (0, 0))) (ho : o + 30 < cs.size) (h1 : T ≠ C) :
    Calls Try.prog 71 #[.pointer (some ⟨bc, 0, none⟩), .pointer (some ⟨bt, 0, none⟩)] w fun e w' => e = .returned (.tuple #[]) ∧ w'.heap[C]? = some (rdObj A B.length c (rtake B (at_, sh) 2).2.1 (rtake B (at_, sh) 2).2.2) ∧
      w'.heap[T]? = some (.cells (cs.setIfInBounds (o + 30) (.int .i64 (beval (rtake B (at_, sh) 2).1))) t (0, 0)) ∧ Mod (fun b => b = C ∨ b = T) w w' := by
  have hd : ∀ W, W = w.drew → Calls Try.prog 69 #[.pointer (some ⟨C, 0, none⟩), .int .i64 2, .pointer (some ⟨T, o + 30, none⟩)] W fun e w' => e = .returned (.tuple #[]) ∧ w'.heap[C]? = some (rdObj A B.length c (rtake B (at_, sh) 2).2.1 (rtake B (at_, sh) 2).2.2) ∧
      w'.heap[T]? = some (.cells (cs.setIfInBounds (o + 30) (.int .i64 (beval (rtake B (at_, sh) 2).1))) t (0, 0)) ∧ Mod (fun b => b = C ∨ b = T) w w' := by
    intro W hW
    subst hW
    exact (num_i64_rd (w := w.drew) B hb (hrow.keeps (Mod.keeps (Mod.drew (Mod.refl No w)) (fun _ _ _ f => f))) hat hc hB 2 (by decide) hS hT ho h1).mono fun e w' ⟨e1, e2, e3, e4⟩ => ⟨e1, e2, e3, (Mod.refl _ w).drew.trans e4⟩
  have c0 := blk_cell hx.c 0
  have c1 := blk_cell hx.t 0
  simp at c0 c1
  obtain ⟨R, hR⟩ : ∃ R : World → Prop, R = fun w' => w'.heap[C]? = some (rdObj A B.length c (rtake B (at_, sh) 2).2.1 (rtake B (at_, sh) 2).2.2) ∧
      w'.heap[T]? = some (.cells (cs.setIfInBounds (o + 30) (.int .i64 (beval (rtake B (at_, sh) 2).1))) t (0, 0)) ∧ Mod (fun b => b = C ∨ b = T) w w' := ⟨_, rfl⟩
  have hd' : ∀ W, W = w.drew → Calls Try.prog 69 #[.pointer (some ⟨C, 0, none⟩), .int .i64 2, .pointer (some ⟨T, o + 30, none⟩)] W fun e w' => e = .returned (.tuple #[]) ∧ R w' := by
    rw [hR]; exact hd
  suffices hs : Calls Try.prog 71 #[.pointer (some ⟨bc, 0, none⟩), .pointer (some ⟨bt, 0, none⟩)] w fun e w' => e = .returned (.tuple #[]) ∧ R w' by
    rw [hR] at hs; exact hs
  have HD := Lib.hid hd'
  clear hb hrow hat hc hB hS hx hT ho hd hd' hR
  go_enter Try.func71, Try.ntmps71
  go_wp2_with fail
  go_region_law (first | (go_simp; go_at_call 69; refine (HD.out _ rfl).mono ?_; rintro e w1 ⟨rfl, hr⟩; have HW := Lib.hid hr; clear hr))
  all_goals
    go_wp2
    first | go_end0 | (simp only [Exit.inBlock, Exit.then]; refine bodyPost_ret (results_none rfl _ _ _) rfl ?_) | refine bodyPost_ret (results_none rfl _ _ _) rfl ?_
    exact ⟨rfl, HW.out⟩
set_option maxRecDepth 100000 in
theorem ten_rate_rd {S : Nat → Prop} {w : World} {C : Nat} {A : Option Addr} {c at_ : Nat} {sh : Bool} (B : List UInt8) (hb : w.heap[C]? = some (rdObj A B.length c at_ sh)) (hrow : RowAt S w A (bcells B)) (hat : at_ ≤ B.length) (hc : B.length ≤ c) (hB : B.length ≤ 100000000) (hS : ¬ S C) {bc bt T o : Nat} (hx : Boxes w bc bt C T o)
    {cs : Array Value} {t : TypeId} (hT : w.heap[T]? = some (.cells cs t (0, 0))) (ho : o + 31 < cs.size) (h1 : T ≠ C) :
    Calls Try.prog 72 #[.pointer (some ⟨bc, 0, none⟩), .pointer (some ⟨bt, 0, none⟩)] w fun e w' => e = .returned (.tuple #[]) ∧ w'.heap[C]? = some (rdObj A B.length c (rtake B (at_, sh) 4).2.1 (rtake B (at_, sh) 4).2.2) ∧
      w'.heap[T]? = some (.cells (cs.setIfInBounds (o + 31) (.int .u32 (beval (rtake B (at_, sh) 4).1))) t (0, 0)) ∧ Mod (fun b => b = C ∨ b = T) w w' := by
  have hd : ∀ W, W = w.drew → Calls Try.prog 57 #[.pointer (some ⟨C, 0, none⟩), .int .i64 4, .pointer (some ⟨T, o + 31, none⟩)] W fun e w' => e = .returned (.tuple #[]) ∧ w'.heap[C]? = some (rdObj A B.length c (rtake B (at_, sh) 4).2.1 (rtake B (at_, sh) 4).2.2) ∧
      w'.heap[T]? = some (.cells (cs.setIfInBounds (o + 31) (.int .u32 (beval (rtake B (at_, sh) 4).1))) t (0, 0)) ∧ Mod (fun b => b = C ∨ b = T) w w' := by
    intro W hW
    subst hW
    exact (num_u32_rd (w := w.drew) B hb (hrow.keeps (Mod.keeps (Mod.drew (Mod.refl No w)) (fun _ _ _ f => f))) hat hc hB 4 (by decide) hS hT ho h1).mono fun e w' ⟨e1, e2, e3, e4⟩ => ⟨e1, e2, e3, (Mod.refl _ w).drew.trans e4⟩
  have c0 := blk_cell hx.c 0
  have c1 := blk_cell hx.t 0
  simp at c0 c1
  obtain ⟨R, hR⟩ : ∃ R : World → Prop, R = fun w' => w'.heap[C]? = some (rdObj A B.length c (rtake B (at_, sh) 4).2.1 (rtake B (at_, sh) 4).2.2) ∧
      w'.heap[T]? = some (.cells (cs.setIfInBounds (o + 31) (.int .u32 (beval (rtake B (at_, sh) 4).1))) t (0, 0)) ∧ Mod (fun b => b = C ∨ b = T) w w' := ⟨_, rfl⟩
  have hd' : ∀ W, W = w.drew → Calls Try.prog 57 #[.pointer (some ⟨C, 0, none⟩), .int .i64 4, .pointer (some ⟨T, o + 31, none⟩)] W fun e w' => e = .returned (.tuple #[]) ∧ R w' := by
    rw [hR]; exact hd
  suffices hs : Calls Try.prog 72 #[.pointer (some ⟨bc, 0, none⟩), .pointer (some ⟨bt, 0, none⟩)] w fun e w' => e = .returned (.tuple #[]) ∧ R w' by
    rw [hR] at hs; exact hs
  have HD := Lib.hid hd'
  clear hb hrow hat hc hB hS hx hT ho hd hd' hR
  go_enter Try.func72, Try.ntmps72
  go_wp2_with fail
  go_region_law (first | (go_simp; go_at_call 57; refine (HD.out _ rfl).mono ?_; rintro e w1 ⟨rfl, hr⟩; have HW := Lib.hid hr; clear hr))
  all_goals
    go_wp2
    first | go_end0 | (simp only [Exit.inBlock, Exit.then]; refine bodyPost_ret (results_none rfl _ _ _) rfl ?_) | refine bodyPost_ret (results_none rfl _ _ _) rfl ?_
    exact ⟨rfl, HW.out⟩
set_option maxRecDepth 100000 in
theorem ten_burst_rd {S : Nat → Prop} {w : World} {C : Nat} {A : Option Addr} {c at_ : Nat} {sh : Bool} (B : List UInt8) (hb : w.heap[C]? = some (rdObj A B.length c at_ sh)) (hrow : RowAt S w A (bcells B)) (hat : at_ ≤ B.length) (hc : B.length ≤ c) (hB : B.length ≤ 100000000) (hS : ¬ S C) {bc bt T o : Nat} (hx : Boxes w bc bt C T o)
    {cs : Array Value} {t : TypeId} (hT : w.heap[T]? = some (.cells cs t (0, 0))) (ho : o + 32 < cs.size) (h1 : T ≠ C) :
    Calls Try.prog 73 #[.pointer (some ⟨bc, 0, none⟩), .pointer (some ⟨bt, 0, none⟩)] w fun e w' => e = .returned (.tuple #[]) ∧ w'.heap[C]? = some (rdObj A B.length c (rtake B (at_, sh) 4).2.1 (rtake B (at_, sh) 4).2.2) ∧
      w'.heap[T]? = some (.cells (cs.setIfInBounds (o + 32) (.int .u32 (beval (rtake B (at_, sh) 4).1))) t (0, 0)) ∧ Mod (fun b => b = C ∨ b = T) w w' := by
  have hd : ∀ W, W = w.drew → Calls Try.prog 57 #[.pointer (some ⟨C, 0, none⟩), .int .i64 4, .pointer (some ⟨T, o + 32, none⟩)] W fun e w' => e = .returned (.tuple #[]) ∧ w'.heap[C]? = some (rdObj A B.length c (rtake B (at_, sh) 4).2.1 (rtake B (at_, sh) 4).2.2) ∧
      w'.heap[T]? = some (.cells (cs.setIfInBounds (o + 32) (.int .u32 (beval (rtake B (at_, sh) 4).1))) t (0, 0)) ∧ Mod (fun b => b = C ∨ b = T) w w' := by
    intro W hW
    subst hW
    exact (num_u32_rd (w := w.drew) B hb (hrow.keeps (Mod.keeps (Mod.drew (Mod.refl No w)) (fun _ _ _ f => f))) hat hc hB 4 (by decide) hS hT ho h1).mono fun e w' ⟨e1, e2, e3, e4⟩ => ⟨e1, e2, e3, (Mod.refl _ w).drew.trans e4⟩
  have c0 := blk_cell hx.c 0
  have c1 := blk_cell hx.t 0
  simp at c0 c1
  obtain ⟨R, hR⟩ : ∃ R : World → Prop, R = fun w' => w'.heap[C]? = some (rdObj A B.length c (rtake B (at_, sh) 4).2.1 (rtake B (at_, sh) 4).2.2) ∧
      w'.heap[T]? = some (.cells (cs.setIfInBounds (o + 32) (.int .u32 (beval (rtake B (at_, sh) 4).1))) t (0, 0)) ∧ Mod (fun b => b = C ∨ b = T) w w' := ⟨_, rfl⟩
  have hd' : ∀ W, W = w.drew → Calls Try.prog 57 #[.pointer (some ⟨C, 0, none⟩), .int .i64 4, .pointer (some ⟨T, o + 32, none⟩)] W fun e w' => e = .returned (.tuple #[]) ∧ R w' := by
    rw [hR]; exact hd
  suffices hs : Calls Try.prog 73 #[.pointer (some ⟨bc, 0, none⟩), .pointer (some ⟨bt, 0, none⟩)] w fun e w' => e = .returned (.tuple #[]) ∧ R w' by
    rw [hR] at hs; exact hs
  have HD := Lib.hid hd'
  clear hb hrow hat hc hB hS hx hT ho hd hd' hR
  go_enter Try.func73, Try.ntmps73
  go_wp2_with fail
  go_region_law (first | (go_simp; go_at_call 57; refine (HD.out _ rfl).mono ?_; rintro e w1 ⟨rfl, hr⟩; have HW := Lib.hid hr; clear hr))
  all_goals
    go_wp2
    first | go_end0 | (simp only [Exit.inBlock, Exit.then]; refine bodyPost_ret (results_none rfl _ _ _) rfl ?_) | refine bodyPost_ret (results_none rfl _ _ _) rfl ?_
    exact ⟨rfl, HW.out⟩
end

section
attribute [local go_sem] stPair gtPair gtK8 gtM6
attribute [local go_sem high] neqPair eqK8 eqM6
open Go.RowKit
set_option linter.unusedVariables false
/-- A name's bytes behind its length. -/
def nameB' (l : List UInt8) : List UInt8 := be 1 (min l.length 255) ++ l.take 255
set_option maxRecDepth 100000 in
theorem ten_key_rd {S : Nat → Prop} {w : World} {C : Nat} {A : Option Addr} {c at_ : Nat} {sh : Bool} (B : List UInt8) (hb : w.heap[C]? = some (rdObj A B.length c at_ sh)) (hrow : RowAt S w A (bcells B)) (hat : at_ ≤ B.length) (hc : B.length ≤ c) (hB : B.length ≤ 100000000) (hS : ¬ S C) {bc bt T o : Nat} (hx : Boxes w bc bt C T o)
    {cs : List Value} {t : TypeId} (hT : w.heap[T]? = some (.cells cs.toArray t (0, 0))) (ho : o + 2 + 8 ≤ cs.length) (h1 : T ≠ C) :
    Calls Try.prog 60 #[.pointer (some ⟨bc, 0, none⟩), .pointer (some ⟨bt, 0, none⟩)] w fun e w' => e = .returned (.tuple #[]) ∧ w'.heap[C]? = some (rdObj A B.length c (rtake B (at_, sh) 8).2.1 (rtake B (at_, sh) 8).2.2) ∧
      w'.heap[T]? = some (.cells (splice cs (o + 2) (bcells (rtake B (at_, sh) 8).1)).toArray t (0, 0)) ∧ Mod (fun b => b = C ∨ b = T) w w' := by
  obtain ⟨R, hR⟩ : ∃ R : World → Prop, R = fun w' => w'.heap[C]? = some (rdObj A B.length c (rtake B (at_, sh) 8).2.1 (rtake B (at_, sh) 8).2.2) ∧
      w'.heap[T]? = some (.cells (splice cs (o + 2) (bcells (rtake B (at_, sh) 8).1)).toArray t (0, 0)) ∧ Mod (fun b => b = C ∨ b = T) w w' := ⟨_, rfl⟩
  have hd : ∀ W, W = w.drew → Calls Try.prog 61 #[.pointer (some ⟨C, 0, none⟩), .slice (some ⟨T, o + 2, none⟩) 8 8] W fun e w' => e = .returned (.tuple #[]) ∧ R w' := by
    intro W hW
    subst hW
    rw [hR]
    exact (bytes_rd (w := w.drew) B hb (hrow.keeps (Mod.keeps (Mod.drew (Mod.refl No w)) (fun _ _ _ f => f))) hat hc hB 8 (by decide) hS hT ho h1).mono fun e w' ⟨e1, e2, e3, e4⟩ => ⟨e1, e2, e3, (Mod.refl _ w).drew.trans e4⟩
  have c0 := blk_cell hx.c 0
  have c1 := blk_cell hx.t 0
  simp at c0 c1
  suffices hs : Calls Try.prog 60 #[.pointer (some ⟨bc, 0, none⟩), .pointer (some ⟨bt, 0, none⟩)] w fun e w' => e = .returned (.tuple #[]) ∧ R w' by
    rw [hR] at hs; exact hs
  have HD := Lib.hid hd
  clear hb hrow hat hc hB hS hx hT ho hd hR
  go_enter Try.func60, Try.ntmps60
  go_wp2_with fail
  go_region_law (first | (go_simp; go_at_call 61; refine (HD.out _ rfl).mono ?_; rintro e w1 ⟨rfl, hr⟩; have HW := Lib.hid hr; clear hr))
  all_goals
    go_wp2
    first | go_end0 | (simp only [Exit.inBlock, Exit.then]; refine bodyPost_ret (results_none rfl _ _ _) rfl ?_) | refine bodyPost_ret (results_none rfl _ _ _) rfl ?_
    exact ⟨rfl, HW.out⟩
set_option maxRecDepth 100000 in
theorem ten_vmac_rd {S : Nat → Prop} {w : World} {C : Nat} {A : Option Addr} {c at_ : Nat} {sh : Bool} (B : List UInt8) (hb : w.heap[C]? = some (rdObj A B.length c at_ sh)) (hrow : RowAt S w A (bcells B)) (hat : at_ ≤ B.length) (hc : B.length ≤ c) (hB : B.length ≤ 100000000) (hS : ¬ S C) {bc bt T o : Nat} (hx : Boxes w bc bt C T o)
    {cs : List Value} {t : TypeId} (hT : w.heap[T]? = some (.cells cs.toArray t (0, 0))) (ho : o + 11 + 6 ≤ cs.length) (h1 : T ≠ C) :
    Calls Try.prog 63 #[.pointer (some ⟨bc, 0, none⟩), .pointer (some ⟨bt, 0, none⟩)] w fun e w' => e = .returned (.tuple #[]) ∧ w'.heap[C]? = some (rdObj A B.length c (rtake B (at_, sh) 6).2.1 (rtake B (at_, sh) 6).2.2) ∧
      w'.heap[T]? = some (.cells (splice cs (o + 11) (bcells (rtake B (at_, sh) 6).1)).toArray t (0, 0)) ∧ Mod (fun b => b = C ∨ b = T) w w' := by
  obtain ⟨R, hR⟩ : ∃ R : World → Prop, R = fun w' => w'.heap[C]? = some (rdObj A B.length c (rtake B (at_, sh) 6).2.1 (rtake B (at_, sh) 6).2.2) ∧
      w'.heap[T]? = some (.cells (splice cs (o + 11) (bcells (rtake B (at_, sh) 6).1)).toArray t (0, 0)) ∧ Mod (fun b => b = C ∨ b = T) w w' := ⟨_, rfl⟩
  have hd : ∀ W, W = w.drew → Calls Try.prog 61 #[.pointer (some ⟨C, 0, none⟩), .slice (some ⟨T, o + 11, none⟩) 6 6] W fun e w' => e = .returned (.tuple #[]) ∧ R w' := by
    intro W hW
    subst hW
    rw [hR]
    exact (bytes_rd (w := w.drew) B hb (hrow.keeps (Mod.keeps (Mod.drew (Mod.refl No w)) (fun _ _ _ f => f))) hat hc hB 6 (by decide) hS hT ho h1).mono fun e w' ⟨e1, e2, e3, e4⟩ => ⟨e1, e2, e3, (Mod.refl _ w).drew.trans e4⟩
  have c0 := blk_cell hx.c 0
  have c1 := blk_cell hx.t 0
  simp at c0 c1
  suffices hs : Calls Try.prog 63 #[.pointer (some ⟨bc, 0, none⟩), .pointer (some ⟨bt, 0, none⟩)] w fun e w' => e = .returned (.tuple #[]) ∧ R w' by
    rw [hR] at hs; exact hs
  have HD := Lib.hid hd
  clear hb hrow hat hc hB hS hx hT ho hd hR
  go_enter Try.func63, Try.ntmps63
  go_wp2_with fail
  go_region_law (first | (go_simp; go_at_call 61; refine (HD.out _ rfl).mono ?_; rintro e w1 ⟨rfl, hr⟩; have HW := Lib.hid hr; clear hr))
  all_goals
    go_wp2
    first | go_end0 | (simp only [Exit.inBlock, Exit.then]; refine bodyPost_ret (results_none rfl _ _ _) rfl ?_) | refine bodyPost_ret (results_none rfl _ _ _) rfl ?_
    exact ⟨rfl, HW.out⟩
set_option maxRecDepth 100000 in
theorem ten_host_rd {S : Nat → Prop} {w : World} {C : Nat} {A : Option Addr} {c at_ : Nat} {sh : Bool} (B : List UInt8) (hb : w.heap[C]? = some (rdObj A B.length c at_ sh)) (hrow : RowAt S w A (bcells B)) (hat : at_ ≤ B.length) (hc : B.length ≤ c) (hB : B.length ≤ 100000000) (hS : ¬ S C) {bc bt T o : Nat} (hx : Boxes w bc bt C T o)
    {cs : List Value} {t : TypeId} (hT : w.heap[T]? = some (.cells cs.toArray t (0, 0))) (ho : o + 17 + 6 ≤ cs.length) (h1 : T ≠ C) :
    Calls Try.prog 64 #[.pointer (some ⟨bc, 0, none⟩), .pointer (some ⟨bt, 0, none⟩)] w fun e w' => e = .returned (.tuple #[]) ∧ w'.heap[C]? = some (rdObj A B.length c (rtake B (at_, sh) 6).2.1 (rtake B (at_, sh) 6).2.2) ∧
      w'.heap[T]? = some (.cells (splice cs (o + 17) (bcells (rtake B (at_, sh) 6).1)).toArray t (0, 0)) ∧ Mod (fun b => b = C ∨ b = T) w w' := by
  obtain ⟨R, hR⟩ : ∃ R : World → Prop, R = fun w' => w'.heap[C]? = some (rdObj A B.length c (rtake B (at_, sh) 6).2.1 (rtake B (at_, sh) 6).2.2) ∧
      w'.heap[T]? = some (.cells (splice cs (o + 17) (bcells (rtake B (at_, sh) 6).1)).toArray t (0, 0)) ∧ Mod (fun b => b = C ∨ b = T) w w' := ⟨_, rfl⟩
  have hd : ∀ W, W = w.drew → Calls Try.prog 61 #[.pointer (some ⟨C, 0, none⟩), .slice (some ⟨T, o + 17, none⟩) 6 6] W fun e w' => e = .returned (.tuple #[]) ∧ R w' := by
    intro W hW
    subst hW
    rw [hR]
    exact (bytes_rd (w := w.drew) B hb (hrow.keeps (Mod.keeps (Mod.drew (Mod.refl No w)) (fun _ _ _ f => f))) hat hc hB 6 (by decide) hS hT ho h1).mono fun e w' ⟨e1, e2, e3, e4⟩ => ⟨e1, e2, e3, (Mod.refl _ w).drew.trans e4⟩
  have c0 := blk_cell hx.c 0
  have c1 := blk_cell hx.t 0
  simp at c0 c1
  suffices hs : Calls Try.prog 64 #[.pointer (some ⟨bc, 0, none⟩), .pointer (some ⟨bt, 0, none⟩)] w fun e w' => e = .returned (.tuple #[]) ∧ R w' by
    rw [hR] at hs; exact hs
  have HD := Lib.hid hd
  clear hb hrow hat hc hB hS hx hT ho hd hR
  go_enter Try.func64, Try.ntmps64
  go_wp2_with fail
  go_region_law (first | (go_simp; go_at_call 61; refine (HD.out _ rfl).mono ?_; rintro e w1 ⟨rfl, hr⟩; have HW := Lib.hid hr; clear hr))
  all_goals
    go_wp2
    first | go_end0 | (simp only [Exit.inBlock, Exit.then]; refine bodyPost_ret (results_none rfl _ _ _) rfl ?_) | refine bodyPost_ret (results_none rfl _ _ _) rfl ?_
    exact ⟨rfl, HW.out⟩
set_option maxRecDepth 100000 in
theorem ten_name_rd {S : Nat → Prop} {w : World} {C : Nat} {A : Option Addr} {c at_ : Nat} {sh : Bool} (B : List UInt8) (hb : w.heap[C]? = some (rdObj A B.length c at_ sh)) (hrow : RowAt S w A (bcells B)) (hat : at_ ≤ B.length) (hc : B.length ≤ c) (hB : B.length ≤ 100000000) (hS : ¬ S C) {bc bt T o : Nat} (hx : Boxes w bc bt C T o)
    (l0 : List UInt8) (hl : l0.length ≤ 100000000) {cs : Array Value} {t : TypeId} (hT : w.heap[T]? = some (.cells cs t (0, 0))) (ho : cs[o]? = some (.string (str l0))) (h1 : T ≠ C) :
    Calls Try.prog 58 #[.pointer (some ⟨bc, 0, none⟩), .pointer (some ⟨bt, 0, none⟩)] w fun e w' => e = .returned (.tuple #[]) ∧ w'.heap[C]? = some (rdObj A B.length c (rname B (at_, sh)).2.1 (rname B (at_, sh)).2.2) ∧
      w'.heap[T]? = some (.cells (cs.setIfInBounds o (.string (str (rname B (at_, sh)).1))) t (0, 0)) ∧ Mod (fun b => b = C ∨ b = T) w w' := by
  obtain ⟨R, hR⟩ : ∃ R : World → Prop, R = fun w' => w'.heap[C]? = some (rdObj A B.length c (rname B (at_, sh)).2.1 (rname B (at_, sh)).2.2) ∧
      w'.heap[T]? = some (.cells (cs.setIfInBounds o (.string (str (rname B (at_, sh)).1))) t (0, 0)) ∧ Mod (fun b => b = C ∨ b = T) w w' := ⟨_, rfl⟩
  have hd : ∀ W, W = w.drew → Calls Try.prog 48 #[.pointer (some ⟨C, 0, none⟩), .pointer (some ⟨T, o, none⟩)] W fun e w' => e = .returned (.tuple #[]) ∧ R w' := by
    intro W hW
    subst hW
    rw [hR]
    exact (name_rd (w := w.drew) B hb (hrow.keeps (Mod.keeps (Mod.drew (Mod.refl No w)) (fun _ _ _ f => f))) hat hc hB hS l0 hl (T := T) (o := o) hT ho h1).mono fun e w' ⟨e1, e2, e3, e4⟩ => ⟨e1, e2, e3, (Mod.refl _ w).drew.trans e4⟩
  have c0 := blk_cell hx.c 0
  have c1 := blk_cell hx.t 0
  simp at c0 c1
  suffices hs : Calls Try.prog 58 #[.pointer (some ⟨bc, 0, none⟩), .pointer (some ⟨bt, 0, none⟩)] w fun e w' => e = .returned (.tuple #[]) ∧ R w' by
    rw [hR] at hs; exact hs
  have HD := Lib.hid hd
  clear hb hrow hat hc hB hS hx hl hT ho hd hR
  go_enter Try.func58, Try.ntmps58
  go_wp2_with fail
  go_region_law (first | (go_simp; go_at_call 48; refine (HD.out _ rfl).mono ?_; rintro e w1 ⟨rfl, hr⟩; have HW := Lib.hid hr; clear hr))
  all_goals
    go_wp2
    first | go_end0 | (simp only [Exit.inBlock, Exit.then]; refine bodyPost_ret (results_none rfl _ _ _) rfl ?_) | refine bodyPost_ret (results_none rfl _ _ _) rfl ?_
    exact ⟨rfl, HW.out⟩
end

section
attribute [local go_sem] stPair gtPair gtK8 gtM6
attribute [local go_sem high] neqPair eqK8 eqM6
open Go.RowKit
set_option linter.unusedVariables false
set_option maxRecDepth 100000 in
theorem ten_npool_rd {S : Nat → Prop} {w : World} {C : Nat} {A : Option Addr} {c at_ : Nat} {sh : Bool} (B : List UInt8) (hb : w.heap[C]? = some (rdObj A B.length c at_ sh)) (hrow : RowAt S w A (bcells B)) (hat : at_ ≤ B.length) (hc : B.length ≤ c) (hB : B.length ≤ 100000000) (hS : ¬ S C) {bc bt bp T o : Nat} (hx : Boxes w bc bt C T o)
    {P : Option Addr} {n p : Nat} (hT : w.cell? ⟨T, o + 23, none⟩ = some (.slice P n p)) {x0 : Value} (hp : w.heap[bp]? = some (.cells #[x0] 3 (0, 0))) (h3 : bp ≠ C) :
    Calls Try.prog 74 #[.pointer (some ⟨bc, 0, none⟩), .pointer (some ⟨bt, 0, none⟩), .pointer (some ⟨bp, 0, none⟩)] w fun e w' => e = .returned (.tuple #[]) ∧ w'.heap[C]? = some (rdObj A B.length c (rtake B (at_, sh) 1).2.1 (rtake B (at_, sh) 1).2.2) ∧
      w'.heap[bp]? = some (.cells #[.int .i64 (beval (rtake B (at_, sh) 1).1)] 3 (0, 0)) ∧ Mod (fun b => b = C ∨ b = bp) w w' := by
  obtain ⟨m, hm⟩ : ∃ m, m = beval (rtake B (at_, sh) 1).1 := ⟨_, rfl⟩
  rw [← hm]
  obtain ⟨R, hR⟩ : ∃ R : World → Prop, R = fun w' => w'.heap[C]? = some (rdObj A B.length c (rtake B (at_, sh) 1).2.1 (rtake B (at_, sh) 1).2.2) ∧ w'.heap[bp]? = some (.cells #[.int .i64 m] 3 (0, 0)) ∧ Mod (fun b => b = C ∨ b = bp) w w' := ⟨_, rfl⟩
  have hd : ∀ W, W = w.drew → Calls Try.prog 75 #[.pointer (some ⟨C, 0, none⟩), .int .i64 n] W fun e w' => e = .returned (.int .i64 m) ∧ w'.cell? ⟨bp, 0, none⟩ = some x0 ∧ w'.frozen? ⟨bp, 0, none⟩ = false ∧ R (w'.setCell ⟨bp, 0, none⟩ (.int .i64 m)) := by
    intro W hW
    subst hW
    have hcr := count_rd (w := w.drew) B hb (hrow.keeps (Mod.keeps (Mod.drew (Mod.refl No w)) (fun _ _ _ f => f))) hat hc hB hS n
    rw [← hm] at hcr
    refine hcr.mono fun e w' ⟨he, a1, a2⟩ => ?_
    have hp' : w'.heap[bp]? = some (.cells #[x0] 3 (0, 0)) := a2.obj (w := w.drew) hp h3
    rw [hR]
    refine ⟨he, (blk_cell hp' 0).trans rfl, blk_free hp' 0, ?_, ?_, ?_⟩
    · rw [heap_setCell_ne _ _ (fun e => h3 e.symm)]
      exact a1
    · rw [heap_setCell_row hp']; simp
    · exact Mod.setCell ((Mod.refl _ w).drew.trans (a2.mono (fun i hi => .inl hi))) (.inr (.inr rfl)) _
  have c0 := blk_cell hx.c 0
  have c1 := blk_cell hx.t 0
  simp at c0 c1
  suffices hs : Calls Try.prog 74 #[.pointer (some ⟨bc, 0, none⟩), .pointer (some ⟨bt, 0, none⟩), .pointer (some ⟨bp, 0, none⟩)] w fun e w' => e = .returned (.tuple #[]) ∧ R w' by
    rw [hR] at hs; exact hs
  have HD := Lib.hid hd
  clear hb hrow hat hc hB hS hx hp h3 hd hR hm
  go_enter Try.func74, Try.ntmps74
  go_wp2_with fail
  go_region_law (first | (go_simp; go_at_call 75; refine (HD.out _ rfl).mono ?_; rintro e w1 ⟨rfl, d1, f1, hr⟩; have HW := Lib.hid hr; clear hr))
  all_goals
    go_wp2
    first | go_end0 | (simp only [Exit.inBlock, Exit.then]; refine bodyPost_ret (results_none rfl _ _ _) rfl ?_) | refine bodyPost_ret (results_none rfl _ _ _) rfl ?_
    exact ⟨rfl, HW.out⟩
set_option maxRecDepth 100000 in
theorem ten_nstatics_rd {S : Nat → Prop} {w : World} {C : Nat} {A : Option Addr} {c at_ : Nat} {sh : Bool} (B : List UInt8) (hb : w.heap[C]? = some (rdObj A B.length c at_ sh)) (hrow : RowAt S w A (bcells B)) (hat : at_ ≤ B.length) (hc : B.length ≤ c) (hB : B.length ≤ 100000000) (hS : ¬ S C) {bc bt bp T o : Nat} (hx : Boxes w bc bt C T o)
    {P : Option Addr} {n p : Nat} (hT : w.cell? ⟨T, o + 27, none⟩ = some (.slice P n p)) {x0 : Value} (hp : w.heap[bp]? = some (.cells #[x0] 3 (0, 0))) (h3 : bp ≠ C) :
    Calls Try.prog 76 #[.pointer (some ⟨bc, 0, none⟩), .pointer (some ⟨bt, 0, none⟩), .pointer (some ⟨bp, 0, none⟩)] w fun e w' => e = .returned (.tuple #[]) ∧ w'.heap[C]? = some (rdObj A B.length c (rtake B (at_, sh) 1).2.1 (rtake B (at_, sh) 1).2.2) ∧
      w'.heap[bp]? = some (.cells #[.int .i64 (beval (rtake B (at_, sh) 1).1)] 3 (0, 0)) ∧ Mod (fun b => b = C ∨ b = bp) w w' := by
  obtain ⟨m, hm⟩ : ∃ m, m = beval (rtake B (at_, sh) 1).1 := ⟨_, rfl⟩
  rw [← hm]
  obtain ⟨R, hR⟩ : ∃ R : World → Prop, R = fun w' => w'.heap[C]? = some (rdObj A B.length c (rtake B (at_, sh) 1).2.1 (rtake B (at_, sh) 1).2.2) ∧ w'.heap[bp]? = some (.cells #[.int .i64 m] 3 (0, 0)) ∧ Mod (fun b => b = C ∨ b = bp) w w' := ⟨_, rfl⟩
  have hd : ∀ W, W = w.drew → Calls Try.prog 75 #[.pointer (some ⟨C, 0, none⟩), .int .i64 n] W fun e w' => e = .returned (.int .i64 m) ∧ w'.cell? ⟨bp, 0, none⟩ = some x0 ∧ w'.frozen? ⟨bp, 0, none⟩ = false ∧ R (w'.setCell ⟨bp, 0, none⟩ (.int .i64 m)) := by
    intro W hW
    subst hW
    have hcr := count_rd (w := w.drew) B hb (hrow.keeps (Mod.keeps (Mod.drew (Mod.refl No w)) (fun _ _ _ f => f))) hat hc hB hS n
    rw [← hm] at hcr
    refine hcr.mono fun e w' ⟨he, a1, a2⟩ => ?_
    have hp' : w'.heap[bp]? = some (.cells #[x0] 3 (0, 0)) := a2.obj (w := w.drew) hp h3
    rw [hR]
    refine ⟨he, (blk_cell hp' 0).trans rfl, blk_free hp' 0, ?_, ?_, ?_⟩
    · rw [heap_setCell_ne _ _ (fun e => h3 e.symm)]
      exact a1
    · rw [heap_setCell_row hp']; simp
    · exact Mod.setCell ((Mod.refl _ w).drew.trans (a2.mono (fun i hi => .inl hi))) (.inr (.inr rfl)) _
  have c0 := blk_cell hx.c 0
  have c1 := blk_cell hx.t 0
  simp at c0 c1
  suffices hs : Calls Try.prog 76 #[.pointer (some ⟨bc, 0, none⟩), .pointer (some ⟨bt, 0, none⟩), .pointer (some ⟨bp, 0, none⟩)] w fun e w' => e = .returned (.tuple #[]) ∧ R w' by
    rw [hR] at hs; exact hs
  have HD := Lib.hid hd
  clear hb hrow hat hc hB hS hx hp h3 hd hR hm
  go_enter Try.func76, Try.ntmps76
  go_wp2_with fail
  go_region_law (first | (go_simp; go_at_call 75; refine (HD.out _ rfl).mono ?_; rintro e w1 ⟨rfl, d1, f1, hr⟩; have HW := Lib.hid hr; clear hr))
  all_goals
    go_wp2
    first | go_end0 | (simp only [Exit.inBlock, Exit.then]; refine bodyPost_ret (results_none rfl _ _ _) rfl ?_) | refine bodyPost_ret (results_none rfl _ _ _) rfl ?_
    exact ⟨rfl, HW.out⟩
set_option maxRecDepth 100000 in
theorem ten_ntwices_rd {S : Nat → Prop} {w : World} {C : Nat} {A : Option Addr} {c at_ : Nat} {sh : Bool} (B : List UInt8) (hb : w.heap[C]? = some (rdObj A B.length c at_ sh)) (hrow : RowAt S w A (bcells B)) (hat : at_ ≤ B.length) (hc : B.length ≤ c) (hB : B.length ≤ 100000000) (hS : ¬ S C) {bc bt bp T o : Nat} (hx : Boxes w bc bt C T o)
    {P : Option Addr} {n p : Nat} (hT : w.cell? ⟨T, o + 28, none⟩ = some (.slice P n p)) {x0 : Value} (hp : w.heap[bp]? = some (.cells #[x0] 3 (0, 0))) (h3 : bp ≠ C) :
    Calls Try.prog 77 #[.pointer (some ⟨bc, 0, none⟩), .pointer (some ⟨bt, 0, none⟩), .pointer (some ⟨bp, 0, none⟩)] w fun e w' => e = .returned (.tuple #[]) ∧ w'.heap[C]? = some (rdObj A B.length c (rtake B (at_, sh) 1).2.1 (rtake B (at_, sh) 1).2.2) ∧
      w'.heap[bp]? = some (.cells #[.int .i64 (beval (rtake B (at_, sh) 1).1)] 3 (0, 0)) ∧ Mod (fun b => b = C ∨ b = bp) w w' := by
  obtain ⟨m, hm⟩ : ∃ m, m = beval (rtake B (at_, sh) 1).1 := ⟨_, rfl⟩
  rw [← hm]
  obtain ⟨R, hR⟩ : ∃ R : World → Prop, R = fun w' => w'.heap[C]? = some (rdObj A B.length c (rtake B (at_, sh) 1).2.1 (rtake B (at_, sh) 1).2.2) ∧ w'.heap[bp]? = some (.cells #[.int .i64 m] 3 (0, 0)) ∧ Mod (fun b => b = C ∨ b = bp) w w' := ⟨_, rfl⟩
  have hd : ∀ W, W = w.drew → Calls Try.prog 75 #[.pointer (some ⟨C, 0, none⟩), .int .i64 n] W fun e w' => e = .returned (.int .i64 m) ∧ w'.cell? ⟨bp, 0, none⟩ = some x0 ∧ w'.frozen? ⟨bp, 0, none⟩ = false ∧ R (w'.setCell ⟨bp, 0, none⟩ (.int .i64 m)) := by
    intro W hW
    subst hW
    have hcr := count_rd (w := w.drew) B hb (hrow.keeps (Mod.keeps (Mod.drew (Mod.refl No w)) (fun _ _ _ f => f))) hat hc hB hS n
    rw [← hm] at hcr
    refine hcr.mono fun e w' ⟨he, a1, a2⟩ => ?_
    have hp' : w'.heap[bp]? = some (.cells #[x0] 3 (0, 0)) := a2.obj (w := w.drew) hp h3
    rw [hR]
    refine ⟨he, (blk_cell hp' 0).trans rfl, blk_free hp' 0, ?_, ?_, ?_⟩
    · rw [heap_setCell_ne _ _ (fun e => h3 e.symm)]
      exact a1
    · rw [heap_setCell_row hp']; simp
    · exact Mod.setCell ((Mod.refl _ w).drew.trans (a2.mono (fun i hi => .inl hi))) (.inr (.inr rfl)) _
  have c0 := blk_cell hx.c 0
  have c1 := blk_cell hx.t 0
  simp at c0 c1
  suffices hs : Calls Try.prog 77 #[.pointer (some ⟨bc, 0, none⟩), .pointer (some ⟨bt, 0, none⟩), .pointer (some ⟨bp, 0, none⟩)] w fun e w' => e = .returned (.tuple #[]) ∧ R w' by
    rw [hR] at hs; exact hs
  have HD := Lib.hid hd
  clear hb hrow hat hc hB hS hx hp h3 hd hR hm
  go_enter Try.func77, Try.ntmps77
  go_wp2_with fail
  go_region_law (first | (go_simp; go_at_call 75; refine (HD.out _ rfl).mono ?_; rintro e w1 ⟨rfl, d1, f1, hr⟩; have HW := Lib.hid hr; clear hr))
  all_goals
    go_wp2
    first | go_end0 | (simp only [Exit.inBlock, Exit.then]; refine bodyPost_ret (results_none rfl _ _ _) rfl ?_) | refine bodyPost_ret (results_none rfl _ _ _) rfl ?_
    exact ⟨rfl, HW.out⟩
end

section
attribute [local go_sem] stPair gtPair gtK8 gtM6
attribute [local go_sem high] neqPair eqK8 eqM6
open Go.RowKit
set_option linter.unusedVariables false
def nums4 (l : List Nat) : List UInt8 := l.flatMap (be 4)
def prs8 (l : List Pr) : List UInt8 := l.flatMap fun p => be 4 p.a ++ be 4 p.b
end

section
attribute [local go_sem] stPair gtPair gtK8 gtM6
attribute [local go_sem high] neqPair eqK8 eqM6
open Go.RowKit
set_option linter.unusedVariables false
/-- A change's cells. -/
def chgCells (put : Bool) (name : List UInt8) (t : Ten) (vp vs vt : Value) : Array Value := #[.bool put, .string (str name)] ++ t.cells vp vs vt
def zChg : Array Value := chgCells false [] .zero (.slice none 0 0) (.slice none 0 0) (.slice none 0 0)
theorem results_cell_tmp {P : Program} {fn : Func} {p q : Tmp} {ty : TypeId} (h : fn.results = #[.cell p ty, .tmp q]) (tmps : Array Value) (w : World) (g : Nat) (t : TypeId) (cs : Array Value) (fr : Nat × Nat) (d : TypeDesc)
    (hp : tmps.getD p undef = .pointer (some ⟨g, 0, none⟩)) (hg : w.heap[g]? = some (.cells cs t fr))
    (hu : P.underlying ty = some d) (hd : (match d with | .struct _ | .array _ _ => true | _ => false) = true) (hi : (P.info? ty).map (·.size) = some cs.size) :
    (results fn tmps).run P w = .ok (.tuple #[.agg cs, tmps.getD q undef]) w := by
  have hp' : tmps[p]?.getD undef = .pointer (some ⟨g, 0, none⟩) := by simpa using hp
  simp [results, h, hp', asAddr, run_loadVar_row w g t ty cs fr d hg hu hd hi]
theorem chgSize : (Try.prog.info? 35).map (·.size) = some 35 := by kernel_rfl
set_option maxRecDepth 100000 in
theorem alloc_chg : ∀ W, (Instr.alloc 35 true (.tuple #[])).run Try.prog W = .ok (.pointer (some ⟨W.heap.size, 0, none⟩)) (W.alloc (.cells zChg 35)) := fun W => by kernel_rfl
set_option maxRecDepth 100000 in
theorem build_chg : ∀ W, (Instr.build 35 #[]).run Try.prog W = .ok (.agg zChg) W := fun W => by kernel_rfl
set_option maxRecDepth 100000 in
theorem build_run (ρ : Operand → Value) (W : World) {dst : Option Tmp} {ty : TypeId} {pos : String} {after : Array Edge} {g : Option (Nat × Bool)} : (execOp ρ { dst := dst, op := .build 35 #[], type := ty, pos := pos, after := after, guard := g }).run Try.prog W = .ok (.value (.agg zChg)) W := by
  show ((do pure (Next.value (← Instr.build 35 (#[].map fun (i, x) => (i, ρ x)))) : Sem Next)).run Try.prog W = _
  simp only [Array.map_empty, Sem.run_bind, build_chg, Result.andThen_ok, Sem.run_pure]
set_option maxRecDepth 100000 in
theorem build1_run (b : Bool) (ρ : Operand → Value) (W : World) {x : Operand} (hx : ρ x = .bool b) {dst : Option Tmp} {ty : TypeId} {pos : String} {after : Array Edge} {g : Option (Nat × Bool)} : (execOp ρ { dst := dst, op := .build 35 #[(0, x)], type := ty, pos := pos, after := after, guard := g }).run Try.prog W = .ok (.value (.agg (chgCells b [] .zero (.slice none 0 0) (.slice none 0 0) (.slice none 0 0)))) W := by
  have hb : (Instr.build 35 #[(0, .bool b)]).run Try.prog W = .ok (.agg (chgCells b [] .zero (.slice none 0 0) (.slice none 0 0) (.slice none 0 0))) W := by cases b <;> kernel_rfl
  show ((do pure (Next.value (← Instr.build 35 (#[(0, x)].map fun (i, x) => (i, ρ x)))) : Sem Next)).run Try.prog W = _
  have hm : (#[((0 : Nat), x)].map fun (i, x) => (i, ρ x)) = #[(0, .bool b)] := by simp [hx]
  rw [hm]
  simp only [Sem.run_bind, hb, Result.andThen_ok, Sem.run_pure]
theorem alloc_op (ρ : Operand → Value) (W : World) {dst : Option Tmp} {ty : TypeId} {pos : String} {after : Array Edge} {g : Option (Nat × Bool)} : (execOp ρ { dst := dst, op := .alloc 35, type := ty, pos := pos, after := after, guard := g }).run Try.prog W = .ok (.value (.pointer (some ⟨W.heap.size, 0, none⟩))) (W.alloc (.cells zChg 35)) := by
  show ((do pure (Next.value (← Instr.alloc 35 true (.tuple #[]))) : Sem Next)).run Try.prog W = _
  simp only [Sem.run_bind, alloc_chg, Result.andThen_ok, Sem.run_pure]
theorem store_chg {W : World} {b : Nat} {old CA : Array Value} (h : W.heap[b]? = some (.cells old 35 (0, 0))) (ho : old.size = 35) (hc : CA.size = 35) (h1 : CA.all (·.oneCell') = true) :
    (Instr.storeAt 35 (.pointer (some ⟨b, 0, none⟩)) (.agg CA)).run Try.prog W = .ok () (W.setRow b CA) := by
  simp only [Instr.storeAt, Instr.sureAddr, Sem.run_bind, Sem.run_pure, Result.andThen_ok]
  exact run_storeVar_row W b _ _ old CA h (by rw [chgSize, hc]) (by rw [ho, hc]) h1
theorem load_chg {W : World} {b : Nat} {CA : Array Value} (h : W.heap[b]? = some (.cells CA 35 (0, 0))) (hc : CA.size = 35) :
    (Instr.loadAt 35 (.pointer (some ⟨b, 0, none⟩))).run Try.prog W = .ok (.agg CA) W := by
  simp only [Instr.loadAt, Instr.sureAddr, Sem.run_bind, Sem.run_pure, Result.andThen_ok]
  exact run_loadVar_row W b _ _ CA (0, 0) _ h Try.underlying35 rfl (by rw [chgSize, hc])
section
variable {P : Program} {ops : Array Oper} {Q : Exit → Act → World → Prop}
theorem step_none {o : Oper} {rest : List Oper} {a : Act} {w w' : World} (hw : Region.wanted o (yielded ops a.tmps) = true) (hr : (execOp a.eval o).run P w = .ok .skip w') (h : wpList P ops Q rest (a.put o.dst undef) w') : wpList P ops Q (o :: rest) a w := by
  refine wpList_step fun K hK => ?_
  rw [if_pos hw]
  unfold Oper.wp
  rw [hr]
  exact hK _ _ h
theorem run_store_op {a : Act} {o : Oper} {t : TypeId} {x y : Operand} {pv v : Value} {W W' : World} (ho : o.op = .store t x y) (hx : a.eval x = pv) (hy : a.eval y = v) (rs : (Instr.storeAt t pv v).run P W = .ok () W') : (execOp a.eval o).run P W = .ok .skip W' := by
  simp only [execOp, ho, hx, hy, Sem.run_bind, rs, Result.andThen_ok, Sem.run_pure]
end
theorem load_op {P : Program} {ρ : Operand → Value} {t : TypeId} {x : Operand} {pv v : Value} {W : World} {dst : Option Tmp} {ty : TypeId} {pos : String} {after : Array Edge} {g : Option (Nat × Bool)} (hx : ρ x = pv) (rs : (Instr.loadAt t pv).run P W = .ok v W) : (execOp ρ { dst := dst, op := .load t x, type := ty, pos := pos, after := after, guard := g }).run P W = .ok (.value v) W := by
  show ((do pure (Next.value (← Instr.loadAt t (ρ x)))) : Sem Next).run P W = _
  rw [hx]
  simp only [Sem.run_bind, rs, Result.andThen_ok, Sem.run_pure]
theorem chg_set (xs : List UInt8) : zChg.setIfInBounds 1 (.string (str xs)) = chgCells false xs .zero (.slice none 0 0) (.slice none 0 0) (.slice none 0 0) := by
  simp [chgCells, zChg, Ten.cells]
theorem chg_size (b : Bool) (xs : List UInt8) (t : Ten) (vp vs vt : Value) : (chgCells b xs t vp vs vt).size = 35 := by simp [chgCells, Ten.cells]
theorem zSize : zChg.size = 35 := rfl
theorem zOne : zChg.all (·.oneCell') = true := by decide +kernel
set_option maxRecDepth 100000 in
theorem openChange_nil {w : World} (A : Option Addr) (c : Nat) :
    Calls Try.prog 32 #[.slice A 0 c] w fun e w' => e = .returned (.tuple #[.agg zChg, .int .i64 70]) ∧ Mod No w w' := by
  go_enter Try.func32, Try.ntmps32
  go_upto_region 2 with fail
  refine wp_region_lit ?_
  refine step_val (v := .agg zChg) (want_none rfl) (build_run _ _) ?_
  refine step_none (want_none rfl) (run_store_op (by rfl) (by rfl) (by rfl) (store_chg (at10 w _) rfl zSize zOne)) ?_
  refine step_val (v := .int .i64 70) (want_none rfl) rfl ?_
  refine wpList_nil ?_
  simp only [Act.put, List.setIfInBounds_toArray, List.set_cons_zero, List.set_cons_succ]
  go_wp2
  refine bodyPost_ret (results_cell_tmp rfl _ _ w.heap.size 35 zChg (0, 0) _ rfl (setRow_heap _ _ _ _ _ _ (at10 w _)) Try.underlying35 rfl (by rw [chgSize, zSize])) rfl ?_
  exact ⟨rfl, ((Mod.refl No w).alloc _).trans' (setRow_mod _) (fun i hi hg => by omega)⟩
set_option maxRecDepth 100000 in
theorem openChange_bad {S : Nat → Prop} {w : World} (A : Option Addr) (n c : Nat) (x : UInt8) (r : List UInt8) (hrow : RowAt S w A (bcells (x :: r))) (hn : n = r.length + 1) (hx : 1 < x.toNat) :
    Calls Try.prog 32 #[.slice A n c] w fun e w' => e = .returned (.tuple #[.agg zChg, .int .i64 70]) ∧ Mod No w w' := by
  obtain ⟨b, o, rfl, _, hlt, hc⟩ := hrow.open (by simp [bcells])
  have c0 := hc 0 (.int .u8 (x.toNat : Int)) rfl
  rw [Nat.add_zero] at c0
  have p0 : ((n : Int) == 0) = false := by rw [beq_eq_false_iff_ne]; omega
  have p1 : (0 : Int) < n := by omega
  have p2 : decide ((1 : Int) < (x.toNat : Int)) = true := by rw [decide_eq_true_eq]; omega
  clear hrow hc hn hx
  go_enter Try.func32, Try.ntmps32
  go_upto_region 2 with fail
  refine wp_region_lit ?_
  refine step_val (v := .agg zChg) (want_none rfl) (build_run _ _) ?_
  refine step_none (want_none rfl) (run_store_op (by rfl) (by rfl) (by rfl) (store_chg (at10 w _) rfl zSize zOne)) ?_
  refine step_val (v := .int .i64 70) (want_none rfl) rfl ?_
  refine wpList_nil ?_
  simp only [Act.put, List.setIfInBounds_toArray, List.set_cons_zero, List.set_cons_succ]
  go_wp2
  refine bodyPost_ret (results_cell_tmp rfl _ _ w.heap.size 35 zChg (0, 0) _ rfl (setRow_heap _ _ _ _ _ _ (at10 w _)) Try.underlying35 rfl (by rw [chgSize, zSize])) rfl ?_
  exact ⟨rfl, ((Mod.refl No w).alloc _).trans' (setRow_mod _) (fun i hi hg => by omega)⟩
set_option maxRecDepth 100000 in
theorem openChange_name {S : Nat → Prop} {w : World} (A : Option Addr) (n c : Nat) (r : List UInt8) (hrow : RowAt S w A (bcells (0 :: r))) (hn : n = r.length + 1) (hc : n ≤ c) (hn8 : n ≤ 100000000) :
    Calls Try.prog 32 #[.slice A n c] w fun e w' => e = .returned (if (rname (0 :: r) (1, false)).2 = (n, false) then .tuple #[.agg (chgCells false (rname (0 :: r) (1, false)).1 .zero (.slice none 0 0) (.slice none 0 0) (.slice none 0 0)), .int .i64 0] else .tuple #[.agg zChg, .int .i64 70]) ∧ Mod No w w' := by
  obtain ⟨b, o, rfl, _, hlt, hcl⟩ := hrow.open (by simp [bcells])
  have c0 := hcl 0 (.int .u8 0) rfl
  rw [Nat.add_zero] at c0
  have p0 : ((n : Int) == 0) = false := by rw [beq_eq_false_iff_ne]; omega
  have p1 : (0 : Int) < n := by omega
  have HR := Lib.hid hrow
  have HN := Lib.hid hn
  clear hrow hcl hn
  obtain ⟨B, hB⟩ : ∃ B, B = 0 :: r := ⟨_, rfl⟩
  rw [← hB]
  obtain ⟨xs, hxs⟩ : ∃ xs, xs = (rname B (1, false)).1 := ⟨_, rfl⟩
  obtain ⟨st, hst⟩ : ∃ st, st = (rname B (1, false)).2 := ⟨_, rfl⟩
  rw [← hxs, ← hst]
  have HBX := Lib.hid (And.intro hB (And.intro hxs hst))
  obtain ⟨res, hres⟩ : ∃ res, res = (if st = (n, false) then Value.tuple #[.agg (chgCells false xs .zero (.slice none 0 0) (.slice none 0 0) (.slice none 0 0)), .int .i64 0] else Value.tuple #[.agg zChg, .int .i64 70]) := ⟨_, rfl⟩
  rw [← hres]
  have HRES := Lib.hid hres
  clear hres
  clear hB hxs hst
  go_enter Try.func32, Try.ntmps32
  go_upto_region 4 with fail
  refine wp_region_lit ?_
  obtain ⟨W1, hW1⟩ : ∃ W1 : World, W1 = (w.alloc (.cells zChg 35)).alloc (.cells #[.slice (some ⟨b, o, none⟩) n c, .bool true, .int .i64 1, .bool false] 100) := ⟨_, rfl⟩
  show wpList _ _ _ _ _ ((w.alloc (.cells zChg 35)).alloc (.cells #[.slice (some ⟨b, o, none⟩) n c, .bool true, .int .i64 1, .bool false] 100))
  rw [← hW1]
  have hm1 : Mod No w W1 := by rw [hW1]; exact ((Mod.refl _ _).alloc _).alloc _
  have hs1 : W1.heap.size = w.heap.size + 2 := by rw [hW1]; simp
  have hz1 : W1.heap[w.heap.size]? = some (.cells zChg 35 (0, 0)) := by rw [hW1]; exact at20 w _ _
  have hC1 : W1.heap[w.heap.size + 1]? = some (rdObj (some ⟨b, o, none⟩) n c 1 false) := by rw [hW1]; exact at21 w _ _
  have c1 : W1.cell? ⟨b, o, none⟩ = some (.int .u8 0) := hm1.cell c0 id
  have p2 : ¬ n = 0 := by omega
  clear hW1
  refine step_val (v := .slice (some ⟨b, o, none⟩) n c) (want_none rfl) rfl ?_
  refine step_val (v := .pointer (some ⟨b, o, none⟩)) (w' := W1) (want_none rfl) (by
    show ((do pure (Next.value (← Instr.indexAt 22 (.slice (some ⟨b, o, none⟩) n c) (.int .i64 0)))) : Sem Next).run Try.prog W1 = _
    go_simp) ?_
  refine step_val (v := .int .u8 0) (w' := W1) (want_none rfl) (by
    show ((do pure (Next.value (← Instr.loadAt 5 (.pointer (some ⟨b, o, none⟩))))) : Sem Next).run Try.prog W1 = _
    go_simp) ?_
  refine step_val (v := .bool false) (w' := W1) (want_none rfl) rfl ?_
  simp only [Act.put, List.setIfInBounds_toArray, List.set_cons_zero, List.set_cons_succ]
  refine step_val (v := .agg zChg) (w' := W1) (want_none rfl) (build1_run false _ _ (by rfl)) ?_
  refine step_val (v := .pointer (some ⟨W1.heap.size, 0, none⟩)) (w' := W1.alloc (.cells zChg 35)) (want_none rfl) (alloc_op _ _) ?_
  simp only [Act.put, List.setIfInBounds_toArray, List.set_cons_zero, List.set_cons_succ]
  refine step_none (w' := (W1.alloc (.cells zChg 35)).setRow W1.heap.size zChg) (want_none rfl) (run_store_op (by rfl) (by rfl) (by rfl) (store_chg (at10 W1 _) rfl zSize zOne)) ?_
  refine wpList_nil ?_
  simp only [Act.put]
  obtain ⟨x5, hx5⟩ : ∃ x5, x5 = W1.heap.size := ⟨_, rfl⟩
  obtain ⟨W3, hW3⟩ : ∃ W3 : World, W3 = (W1.alloc (.cells zChg 35)).setRow x5 zChg := ⟨_, rfl⟩
  rw [← hx5, ← hW3]
  have hm3 : Mod No W1 W3 := by rw [hW3]; exact ((Mod.refl No W1).alloc _).trans' (setRow_mod _) (fun i hi hg => by omega)
  have hz3 : W3.heap[x5]? = some (.cells zChg 35 (0, 0)) := by rw [hW3, hx5]; exact setRow_heap _ _ _ _ _ _ (at10 W1 _)
  have d0 : W3.cell? ⟨x5, 0, none⟩ = some (.bool false) := (blk_cell hz3 0).trans rfl
  obtain ⟨hB, hxs, hst⟩ := HBX.out
  have hBn : B.length = n := by rw [hB, List.length_cons, HN.out]
  have hrow3 := (HR.out.mono (S' := fun i => S i ∧ i < w.heap.size) (fun i hi hs => ⟨hs, hi⟩)).keeps ((hm1.trans hm3).keeps (fun _ _ _ f => f))
  rw [← hB] at hrow3
  have hNM := name_rd B (by rw [hBn]; exact hm3.obj hC1 id) hrow3 (by omega) (by omega) (by omega) (fun f => by omega) [] (by simp) (T := x5) (o := 1) hz3 rfl (by omega)
  rw [← hxs, ← hst] at hNM
  have HNM := Lib.hid hNM
  have H3 := Lib.hid (And.intro (hm1.trans hm3) (And.intro (hm3.obj hz1 id) hBn))
  have hx1 : w.heap.size < x5 := by omega
  have hx2 : w.heap.size + 1 < x5 := by omega
  clear hm1 hz1 hC1 c1 hm3 hz3 hB hrow3 hNM hxs hst hW3 hx5 hs1 hBn HR HN c0 p0 p1 HBX p2
  clear W1
  go_upto_region 9 with (first | (go_at_call 48; refine HNM.out.mono ?_; rintro e w4 ⟨rfl, hC4, hX4, hm4⟩; have HE := Lib.hid (ended_ok hC4); have H4 := Lib.hid (And.intro hX4 hm4); clear hC4 hX4 hm4) | fail)
  obtain ⟨eb, heb⟩ : ∃ eb, eb = (!st.2 && decide (st.1 = B.length)) := ⟨_, rfl⟩
  rw [← heb] at HE
  have hif : (st = (n, false)) = (eb = true) := by
    rw [heb, H3.out.2.2]
    obtain ⟨s1, s2⟩ := st
    cases s2 <;> simp
  have hX4 := H4.out.1
  rw [chg_set] at hX4
  have ho1 : (chgCells false xs .zero (.slice none 0 0) (.slice none 0 0) (.slice none 0 0)).all (·.oneCell') = true := by simp [chgCells, Ten.cells, Value.oneCell']
  obtain ⟨CX, hCX⟩ : ∃ CX, CX = chgCells false xs .zero (.slice none 0 0) (.slice none 0 0) (.slice none 0 0) := ⟨_, rfl⟩
  have hCs : CX.size = 35 := by rw [hCX, chg_size]
  rw [← hCX] at hX4 ho1
  have hz4 := H4.out.2.obj H3.out.2.1 (by intro f; rcases f with f | f <;> omega)
  have hmall : Mod No w w4 := H3.out.1.trans' H4.out.2 (fun i hi hg => by rcases hg with h | h <;> omega)
  have HIF := Lib.hid hif
  have HZ := Lib.hid (And.intro hX4 (And.intro hz4 hmall))
  have HCX := Lib.hid (And.intro hCX (And.intro hCs ho1))
  clear hif heb hX4 hz4 hmall hCX hCs ho1
  cases eb
  · go_upto_region 10 with (first | (go_at_call 49; refine HE.out.mono ?_; rintro e w5 ⟨rfl, q5, rfl⟩) | fail)
    refine wp_region_lit ?_
    refine step_val (v := .agg zChg) (want_none rfl) (build_run _ _) ?_
    simp only [Act.put, List.setIfInBounds_toArray, List.set_cons_zero, List.set_cons_succ]
    refine step_none (w' := (w4.drewN q5).setRow w.heap.size zChg) (want_none rfl) (run_store_op (by rfl) (by rfl) (by rfl) (store_chg (old := zChg) (HZ.out.2.1) rfl zSize zOne)) ?_
    refine step_val (v := .int .i64 70) (want_none rfl) rfl ?_
    refine wpList_nil ?_
    simp only [Act.put, List.setIfInBounds_toArray, List.set_cons_zero, List.set_cons_succ]
    go_wp2
    refine bodyPost_ret (results_cell_tmp rfl _ _ w.heap.size 35 zChg (0, 0) _ rfl (setRow_heap _ _ _ _ _ _ HZ.out.2.1) Try.underlying35 rfl (by rw [chgSize, zSize])) rfl ?_
    refine ⟨?_, (HZ.out.2.2.drewN q5).trans' (setRow_mod _) (fun i hi hg => by omega)⟩
    rw [HRES.out, if_neg (by rw [HIF.out]; decide)]
    rfl
  · go_upto_region 11 with (first | (go_at_call 49; refine HE.out.mono ?_; rintro e w5 ⟨rfl, q5, rfl⟩) | fail)
    refine wp_region_lit ?_
    refine step_val (v := .agg CX) (w' := w4.drewN q5) (want_none rfl) (load_op (by rfl) (load_chg HZ.out.1 HCX.out.2.1)) ?_
    simp only [Act.put, List.setIfInBounds_toArray, List.set_cons_zero, List.set_cons_succ]
    refine step_none (w' := (w4.drewN q5).setRow w.heap.size CX) (want_none rfl) (run_store_op (by rfl) (by rfl) (by rfl) (store_chg (old := zChg) (HZ.out.2.1) rfl HCX.out.2.1 HCX.out.2.2)) ?_
    refine step_val (v := .int .i64 0) (want_none rfl) rfl ?_
    refine wpList_nil ?_
    simp only [Act.put, List.setIfInBounds_toArray, List.set_cons_zero, List.set_cons_succ]
    go_wp2
    refine bodyPost_ret (results_cell_tmp rfl _ _ w.heap.size 35 CX (0, 0) _ rfl (setRow_heap _ _ _ _ _ _ HZ.out.2.1) Try.underlying35 rfl (by rw [chgSize, HCX.out.2.1])) rfl ?_
    refine ⟨?_, (HZ.out.2.2.drewN q5).trans' (setRow_mod _) (fun i hi hg => by omega)⟩
    rw [HRES.out, if_pos (Eq.mpr HIF.out trivial), ← HCX.out.1]
    rfl
end

section
attribute [local go_sem] stPair gtPair gtK8 gtM6
attribute [local go_sem high] neqPair eqK8 eqM6
open Go.RowKit
set_option linter.unusedVariables false
theorem conv_row {S : Nat → Prop} {w : World} {A : Option Addr} {l : List UInt8} (c : Nat) (h : RowAt S w A (bcells l)) : (convert 22 9 (.slice A l.length c)).run Try.prog w = .ok (.string (str l)) w := by
  cases A with
  | none =>
    have hl : l = [] := by
      rcases h with h | ⟨b, o, e, _⟩
      · have := congrArg List.length h
        rw [bcells_length] at this
        exact List.eq_nil_of_length_eq_zero (by simpa using this)
      · cases e
    subst hl
    exact Lib.run_convert_nil_bytes w 22 9 5 c Try.underlying22 Try.underlying5 Try.underlying9
  | some ad =>
    refine run_convert_bytes_back w 22 9 5 ad c l Try.underlying22 Try.underlying5 Try.underlying9 (fun j hj => ?_)
    obtain ⟨b, o, e, _, _, hc⟩ := h.open (by intro e; have := congrArg List.length e; rw [bcells_length] at this; simp at this; subst this; simp at hj)
    cases e
    rw [Addr.add_lit]
    exact hc j _ (by simp [bcells, List.getElem?_eq_getElem hj])
set_option maxRecDepth 100000 in
theorem bytes_ok {S S' : Nat → Prop} {w : World} (A B : Option Addr) (c d : Nat) (xs ys : List UInt8) (hx : RowAt S w A (bcells xs)) (hy : RowAt S' w B (bcells ys)) :
    Calls Try.prog 12 #[.slice A xs.length c, .slice B ys.length d] w fun e w' => e = .returned (.bool (decide (xs = ys))) ∧ w' = w := by
  have r1 := conv_row c hx
  have r2 := conv_row d hy
  have hb := str_beq xs ys
  have hl1 : (xs.length : Nat) = xs.length := rfl
  clear hx hy
  generalize xs.length = n at r1 ⊢
  generalize ys.length = m at r2 ⊢
  go_enter Try.func12, Try.ntmps12
  go_wp2
  go_ret
  exact ⟨by rw [← hb]; rfl, rfl⟩
end

section
attribute [local go_sem] stPair gtPair gtK8 gtM6
attribute [local go_sem high] neqPair eqK8 eqM6
open Go.RowKit
set_option linter.unusedVariables false
/-- The closures' numbers, and what they have caught. -/
def tenFn : List Nat := [58, 59, 60, 62, 63, 64, 65, 67, 68, 70, 71, 72, 73, 74, 76, 77, 78, 81, 83]
def bxv (n : Nat) : Value := .pointer (some ⟨n, 0, none⟩)
def tenCap (n : Nat) : List (Array Value) :=
  List.replicate 13 #[bxv n, bxv (n + 1)] ++ [#[bxv n, bxv (n + 1), bxv (n + 2)], #[bxv n, bxv (n + 1), bxv (n + 3)], #[bxv n, bxv (n + 1), bxv (n + 4)], #[bxv n, bxv (n + 2), bxv (n + 1)], #[bxv n, bxv (n + 3), bxv (n + 1), bxv (n + 5)], #[bxv n, bxv (n + 4), bxv (n + 1), bxv (n + 5)]]
def tenRow (n : Nat) : List Value := (tenFn.zip (tenCap n)).map fun x => .func (.func x.1) #[] x.2
theorem ten_enters : ∀ f ∈ tenFn, ∀ (a : Array Value) (W : World), (callFunc f a).run Try.prog W = .ok (.enter f a) W := by
  intro f hf a W
  simp only [tenFn, List.mem_cons, List.mem_nil_iff, or_false] at hf
  rcases hf with rfl | rfl | rfl | rfl | rfl | rfl | rfl | rfl | rfl | rfl | rfl | rfl | rfl | rfl | rfl | rfl | rfl | rfl | rfl <;> go_simp
/-- The walk's world under a name. -/
theorem grab_world {P : Program} {c : Code} {Q : Exit → Act → World → Prop} {a : Act} {W : World} (h : ∀ w0, w0 = W → Code.wp P c Q a w0) : Code.wp P c Q a W := h _ rfl
theorem at_eq (w : World) (a : Obj) {i : Nat} (h : i = w.heap.size) : (w.alloc a).heap[i]? = some a := by subst h; exact at10 w a
theorem run_store_func {P : Program} {w : World} {a : Addr} {m : Mode} (f : Fn) (ts cs : Array Value) : (store a (.func f ts cs) m).run P w = stored P w a (.func f ts cs) m := run_store P w a _ m rfl
attribute [local go_sem] run_store_func
set_option maxRecDepth 100000 in
theorem tenant_walk {w : World} {C T o : Nat} (R : World → Prop)
    (H : ∀ w0, Mod No w w0 → Boxes w0 w.heap.size (w.heap.size + 1) C T o → w0.heap[w.heap.size + 2]? = some (.cells #[.int .i64 0] 3 (0, 0)) → w0.heap[w.heap.size + 3]? = some (.cells #[.int .i64 0] 3 (0, 0)) → w0.heap[w.heap.size + 4]? = some (.cells #[.int .i64 0] 3 (0, 0)) →
      w0.heap[w.heap.size + 5]? = some (.cells #[.func (.func 56) #[] #[bxv w.heap.size]] 117 (0, 0)) → w0.heap[w.heap.size + 6]? = some (.cells (tenRow w.heap.size).toArray 1 (0, 0)) →
      ∃ Inv : Nat → World → Prop, Inv 0 w0 ∧ (∀ k w1 f c, tenFn[k]? = some f → (tenCap w.heap.size)[k]? = some c → Inv k w1 → w1.heap[w.heap.size + 6]? = some (.cells (tenRow w.heap.size).toArray 1 (0, 0)) ∧ Calls Try.prog f c w1 fun e w' => e = .returned (.tuple #[]) ∧ Inv (k + 1) w') ∧ ∀ w', Inv 19 w' → R w') :
    Calls Try.prog 47 #[.pointer (some ⟨C, 0, none⟩), .pointer (some ⟨T, o, none⟩)] w fun e w' => e = .returned (.tuple #[]) ∧ R w' := by
  have HH := Lib.hid H
  clear H
  go_enter Try.func47, Try.ntmps47
  go_wp2
  refine grab_world fun w0 hw0 => ?_
  have hm0 : Mod No w w0 := by rw [hw0]; repeat (first | with_reducible exact Mod.refl _ _ | refine Mod.alloc ?_ _ | refine Mod.setCell ?_ (.inl (by simp; omega)) _)
  have k0 : w0.heap[w.heap.size]? = some (.cells #[.pointer (some ⟨C, 0, none⟩)] 98 (0, 0)) := by rw [hw0]; (repeat (first | (refine at_eq _ _ ?_; simp; done) | (refine (Below.heap_alloc _ _ _ ?_).trans ?_; (simp; try omega))))
  have k1 : w0.heap[w.heap.size + 1]? = some (.cells #[.pointer (some ⟨T, o, none⟩)] 102 (0, 0)) := by rw [hw0]; (repeat (first | (refine at_eq _ _ ?_; simp; done) | (refine (Below.heap_alloc _ _ _ ?_).trans ?_; (simp; try omega))))
  have k2 : w0.heap[w.heap.size + 2]? = some (.cells #[.int .i64 0] 3 (0, 0)) := by rw [hw0]; (repeat (first | (refine at_eq _ _ ?_; simp; done) | (refine (Below.heap_alloc _ _ _ ?_).trans ?_; (simp; try omega))))
  have k3 : w0.heap[w.heap.size + 3]? = some (.cells #[.int .i64 0] 3 (0, 0)) := by rw [hw0]; (repeat (first | (refine at_eq _ _ ?_; simp; done) | (refine (Below.heap_alloc _ _ _ ?_).trans ?_; (simp; try omega))))
  have k4 : w0.heap[w.heap.size + 4]? = some (.cells #[.int .i64 0] 3 (0, 0)) := by rw [hw0]; (repeat (first | (refine at_eq _ _ ?_; simp; done) | (refine (Below.heap_alloc _ _ _ ?_).trans ?_; (simp; try omega))))
  have k5 : w0.heap[w.heap.size + 5]? = some (.cells #[.func (.func 56) #[] #[bxv w.heap.size]] 117 (0, 0)) := by rw [hw0]; (repeat (first | (refine at_eq _ _ ?_; simp; done) | (refine (Below.heap_alloc _ _ _ ?_).trans ?_; (simp; try omega))))
  have k6 : w0.heap[w.heap.size + 6]? = some (.cells (tenRow w.heap.size).toArray 1 (0, 0)) := by rw [hw0]; refine (at_eq _ _ (by simp)).trans ?_; simp [tenRow, tenFn, tenCap, bxv, List.replicate]
  obtain ⟨Inv, h0, hstep, hend⟩ := HH.out w0 hm0 ⟨k0, k1⟩ k2 k3 k4 k5 k6
  have HI := Lib.hid (And.intro h0 (And.intro hstep hend))
  clear HH h0 hstep hend k0 k1 k2 k3 k4 k5 k6 hm0 hw0
  go_loopw [34] (fun i wr => ∃ k : Nat, i = .int .i64 k ∧ k ≤ 19 ∧ Inv k wr) (fun i _ => 19 - (intOf i).toNat)
  case atStart => exact ⟨0, rfl, by omega, HI.out.1⟩
  case round =>
    obtain ⟨k, rfl, hk, hinv⟩ := hrel
    have HV := Lib.hid hinv
    clear hinv
    by_cases hlt : k < 19
    · obtain ⟨f, hf⟩ : ∃ f, tenFn[k]? = some f := ⟨_, List.getElem?_eq_getElem hlt⟩
      obtain ⟨c, hc⟩ : ∃ c, (tenCap w.heap.size)[k]? = some c := ⟨_, List.getElem?_eq_getElem hlt⟩
      obtain ⟨hrow, hcall⟩ := HI.out.2.1 k _ f c hf hc HV.out
      have hcell : wr.cell? ⟨w.heap.size + 1 + 1 + 1 + 1 + 1 + 1, k, none⟩ = some (.func (.func f) #[] c) := by
        rw [show w.heap.size + 1 + 1 + 1 + 1 + 1 + 1 = w.heap.size + 6 from rfl, blk_cell hrow]
        simp [tenRow, (List.getElem?_zip_eq_some (z := (f, c))).2 ⟨hf, hc⟩]
      have hen := ten_enters f (List.mem_of_getElem? hf)
      have p1 : (0:Int) ≤ k := by omega
      have p2 : (k:Int) < 19 := by omega
      have HC := Lib.hid hcall
      clear hrow hcall hf hc
      go_wp2_with fail
      refine HC.out.mono ?_
      rintro e w2 ⟨rfl, hi⟩
      have HV2 := Lib.hid hi
      clear hi
      go_wp2
      exact ⟨⟨k + 1, by go_num, by omega, HV2.out⟩, by simp [intOf]; omega⟩
    · have hk' : k = 19 := by omega
      subst hk'
      go_wp2
      go_end0
      exact ⟨rfl, HI.out.2.2 _ HV.out⟩
end

section
attribute [local go_sem] stPair gtPair gtK8 gtM6 run_store_func
attribute [local go_sem high] neqPair eqK8 eqM6
open Go.RowKit
set_option linter.unusedVariables false
/-- A number as its low 64 bits. -/
def u64n (z : Int) : Nat := (IntKind.u64.wrap z).toNat
/-- A tenant's bytes, field by field. -/
def wfields (t : Ten) : List (List UInt8) :=
  [nameB' t.name, be 4 t.vni, t.key.l, be 4 t.vtep, t.vmac.l, t.host.l, be 2 t.lo, be 2 t.hi, be 1 (u64n t.filter), be 2 (u64n t.sess), be 2 (u64n t.queue), be 4 t.rate, be 4 t.burst,
    be 1 (min t.pool.length 255), be 1 (min t.statics.length 255), be 1 (min t.twices.length 255), nums4 (t.pool.take 255), prs8 (t.statics.take 255), prs8 (t.twices.take 255)]
/-- The name, cut. -/
def Ten.cut (t : Ten) : Ten := { t with name := t.name.take 255 }
/-- Each number lies in its type. -/
structure Ten.Ok (t : Ten) : Prop where
  vni : t.vni < 4294967296
  vtep : t.vtep < 4294967296
  lo : t.lo < 65536
  hi : t.hi < 65536
  rate : t.rate < 4294967296
  burst : t.burst < 4294967296
  pool : ∀ x ∈ t.pool, x < 4294967296
  statics : ∀ x ∈ t.statics, x.a < 4294967296 ∧ x.b < 4294967296
  twices : ∀ x ∈ t.twices, x.a < 4294967296 ∧ x.b < 4294967296
theorem mid_get {pre X post : List Value} {o j : Nat} (ho : pre.length = o) (hj : j < X.length) : (pre ++ X ++ post)[o + j]? = X[j]? := by
  rw [List.append_assoc, List.getElem?_append_right (by omega), List.getElem?_append_left (by omega)]
  congr 1
  omega
theorem mid_set {pre X post : List Value} {o j : Nat} (ho : pre.length = o) (hj : j < X.length) (v : Value) : (pre ++ X ++ post).set (o + j) v = pre ++ X.set j v ++ post := by
  rw [List.append_assoc, List.set_append_right _ _ (by omega), List.set_append_left _ _ (by omega), List.append_assoc]
  congr 3
  omega
structure TW (w0 : World) (n C base T : Nat) (v0 : Value) (pre post : List Value) (tt : TypeId) (vp vs vt : Value) (t : Ten) (np ns nt : Nat) (X : List UInt8) (v : Value) (w : World) : Prop where
  wr : Wr w C base X v
  row : ∀ g, v.ownBlock = some g → v0.ownBlock = some g ∨ w0.heap.size ≤ g
  ten : w.heap[T]? = some (.cells (pre ++ (t.cells vp vs vt).toList ++ post).toArray tt (0, 0))
  mod : Mod (fun b => b = C ∨ v0.ownBlock = some b ∨ b = T ∨ n + 2 ≤ b ∧ b ≤ n + 4) w0 w
  hp : w.heap[n + 2]? = some (.cells #[.int .i64 (np : Int)] 3 (0, 0))
  hs : w.heap[n + 3]? = some (.cells #[.int .i64 (ns : Int)] 3 (0, 0))
  ht : w.heap[n + 4]? = some (.cells #[.int .i64 (nt : Int)] 3 (0, 0))
/-- What the walk's first world gives, and what the call was given. -/
structure TG (w0 : World) (n C base T o : Nat) (v0 : Value) (pre post : List Value) (tt : TypeId) (vp vs vt : Value) (t : Ten) : Prop where
  bx : Boxes w0 n (n + 1) C T o
  pr : w0.heap[n + 5]? = some (.cells #[.func (.func 56) #[] #[bxv n]] 117 (0, 0))
  rw6 : w0.heap[n + 6]? = some (.cells (tenRow n).toArray 1 (0, 0))
  C_lt : C < n
  T_lt : T < n
  TC : T ≠ C
  T_ge : base ≤ T
  own : ∀ g, v0.ownBlock = some g → base ≤ g ∧ g < n
  base_le : base ≤ n
  C_ge : base ≤ C
  tt5 : tt ≠ 5
  ho : pre.length = o
  ok : t.Ok
  name : t.name.length ≤ 100000000
  rows : ∃ P p Q q R r, vp = .slice P t.pool.length p ∧ vs = .slice Q t.statics.length q ∧ vt = .slice R t.twices.length r ∧ RowAt (· < base) w0 P (numCells t.pool) ∧ RowAt (· < base) w0 Q (prCells t.statics) ∧ RowAt (· < base) w0 R (prCells t.twices)
section
variable {w0 : World} {n C base T o : Nat} {v0 : Value} {pre post : List Value} {tt : TypeId} {vp vs vt : Value} {t t1 : Ten} {np ns nt : Nat} {X : List UInt8} {v : Value} {w : World}
theorem TG.gt (g : TG w0 n C base T o v0 pre post tt vp vs vt t) : n + 6 < w0.heap.size := lt_of_block g.rw6
theorem TW.keep (h : TW w0 n C base T v0 pre post tt vp vs vt t1 np ns nt X v w) (g : TG w0 n C base T o v0 pre post tt vp vs vt t) {b : Nat} {ob : Obj} (hb : w0.heap[b]? = some ob) (h1 : n ≤ b) (h2 : b < n + 2 ∨ n + 4 < b) : w.heap[b]? = some ob := by
  refine h.mod.obj hb ?_
  have := g.C_lt
  have := g.T_lt
  rintro (f | f | f | f)
  · omega
  · have := (g.own b f).2; omega
  · omega
  · omega
theorem TW.boxes (h : TW w0 n C base T v0 pre post tt vp vs vt t1 np ns nt X v w) (g : TG w0 n C base T o v0 pre post tt vp vs vt t) : Boxes w n (n + 1) C T o :=
  ⟨h.keep g g.bx.c (by omega) (by omega), h.keep g g.bx.t (by omega) (by omega)⟩
/-- What a step turned of v's, seen from the first world. -/
theorem TW.mod' (h : TW w0 n C base T v0 pre post tt vp vs vt t1 np ns nt X v w) {w' : World} {E : Nat → Prop} (hm : Mod (fun b => b = C ∨ v.ownBlock = some b ∨ E b) w w') (hE : ∀ b, E b → b = T ∨ n + 2 ≤ b ∧ b ≤ n + 4) :
    Mod (fun b => b = C ∨ v0.ownBlock = some b ∨ b = T ∨ n + 2 ≤ b ∧ b ≤ n + 4) w0 w' :=
  h.mod.trans' hm fun i hi f => by
    rcases f with f | f | f
    · exact .inl f
    · rcases h.row i f with f | f
      · exact .inr (.inl f)
      · omega
    · exact .inr (.inr (hE i f))
theorem TW.row' (h : TW w0 n C base T v0 pre post tt vp vs vt t1 np ns nt X v w) {v' : Value} (hr : ∀ g, v'.ownBlock = some g → v.ownBlock = some g ∨ w.heap.size ≤ g) : ∀ g, v'.ownBlock = some g → v0.ownBlock = some g ∨ w0.heap.size ≤ g := by
  intro g hg
  rcases hr g hg with f | f
  · exact h.row g f
  · exact .inr (Nat.le_trans h.mod.size f)
theorem TW.next (h : TW w0 n C base T v0 pre post tt vp vs vt t1 np ns nt X v w) (g : TG w0 n C base T o v0 pre post tt vp vs vt t) {X' : List UInt8} {v' : Value} {w' : World} (hw : Wr w' C base X' v') (hm : WMod C v w v' w') :
    TW w0 n C base T v0 pre post tt vp vs vt t1 np ns nt X' v' w' := by
  have k1 := g.C_lt
  exact ⟨hw, h.row' hm.row, hm.obj h.ten g.TC (h.wr.ne h.ten g.tt5), h.mod' (E := fun _ => False) (hm.mod.mono (fun i f => by rcases f with f | f; exact .inl f; exact .inr (.inl f))) (fun _ f => f.elim),
    hm.obj h.hp (by omega) (h.wr.ne h.hp (by decide)), hm.obj h.hs (by omega) (h.wr.ne h.hs (by decide)), hm.obj h.ht (by omega) (h.wr.ne h.ht (by decide))⟩
theorem TW.cell (h : TW w0 n C base T v0 pre post tt vp vs vt t1 np ns nt X v w) (g : TG w0 n C base T o v0 pre post tt vp vs vt t) {j : Nat} {u : Value} (hj : j < 33) (hu : (t1.cells vp vs vt).toList[j]? = some u) : w.cell? ⟨T, o + j, none⟩ = some u := by
  rw [blk_cell h.ten, List.getElem?_toArray, mid_get g.ho (by simpa [Ten.cells] using hj), hu]
end
section
variable {w0 : World} {n C base T o : Nat} {v0 : Value} {pre post : List Value} {tt : TypeId} {vp vs vt : Value} {t : Ten} {L : List UInt8} {v : Value} {w : World}
end
end

end Go.Proofs.Ytpkieilmlnlpkaa
