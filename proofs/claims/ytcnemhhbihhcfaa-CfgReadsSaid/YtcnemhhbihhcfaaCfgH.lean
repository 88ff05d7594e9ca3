/-
  Package cfg, eighth part: are two tenants the same, by the program and by the help of the statements; is one light.
-/
import Derived.Test.YtcnemhhbihhcfaaCfgG
import Derived.Stop.BytesEq
import Derived.Test.YtcnemhhbihhcfaaChain
namespace Go.Proofs.Ytcnemhhbihhcfaa
open Go.RowKit
set_option linter.unusedVariables false

theorem szU8 : ∀ w, (sizeOf 5).run Try.prog w = .ok 1 w := fun w => by kernel_rfl
@[go_sem] theorem gtK8 : Try.prog.eqGuardType Try.prog.depth 23 = false := by kernel_rfl
@[go_sem] theorem gtM6 : Try.prog.eqGuardType Try.prog.depth 25 = false := by kernel_rfl
theorem k8_beq (a b : K8) : (a.l == b.l) = decide (a = b) := by
  obtain ⟨a0, a1, a2, a3, a4, a5, a6, a7⟩ := a
  obtain ⟨b0, b1, b2, b3, b4, b5, b6, b7⟩ := b
  rw [Bool.eq_iff_iff]
  simp [K8.l]
theorem m6_beq (a b : M6) : (a.l == b.l) = decide (a = b) := by
  obtain ⟨a0, a1, a2, a3, a4, a5⟩ := a
  obtain ⟨b0, b1, b2, b3, b4, b5⟩ := b
  rw [Bool.eq_iff_iff]
  simp [M6.l]
@[go_sem high] theorem eqK8 (a b : K8) (w : World) : (binOp .eql 23 (.agg #[.int .u8 (a.b0.toNat : Int), .int .u8 (a.b1.toNat : Int), .int .u8 (a.b2.toNat : Int), .int .u8 (a.b3.toNat : Int), .int .u8 (a.b4.toNat : Int), .int .u8 (a.b5.toNat : Int), .int .u8 (a.b6.toNat : Int), .int .u8 (a.b7.toNat : Int)]) (.agg #[.int .u8 (b.b0.toNat : Int), .int .u8 (b.b1.toNat : Int), .int .u8 (b.b2.toNat : Int), .int .u8 (b.b3.toNat : Int), .int .u8 (b.b4.toNat : Int), .int .u8 (b.b5.toNat : Int), .int .u8 (b.b6.toNat : Int), .int .u8 (b.b7.toNat : Int)])).run Try.prog w = .ok (.bool (decide (a = b))) w := by
  rw [← k8_beq]
  exact run_eql_bytes w 23 5 8 Try.underlying23 Try.underlying5 szU8 a.l b.l rfl rfl
@[go_sem high] theorem eqM6 (a b : M6) (w : World) : (binOp .eql 25 (.agg #[.int .u8 (a.b0.toNat : Int), .int .u8 (a.b1.toNat : Int), .int .u8 (a.b2.toNat : Int), .int .u8 (a.b3.toNat : Int), .int .u8 (a.b4.toNat : Int), .int .u8 (a.b5.toNat : Int)]) (.agg #[.int .u8 (b.b0.toNat : Int), .int .u8 (b.b1.toNat : Int), .int .u8 (b.b2.toNat : Int), .int .u8 (b.b3.toNat : Int), .int .u8 (b.b4.toNat : Int), .int .u8 (b.b5.toNat : Int)])).run Try.prog w = .ok (.bool (decide (a = b))) w := by
  rw [← m6_beq]
  exact run_eql_bytes w 25 5 6 Try.underlying25 Try.underlying5 szU8 a.l b.l rfl rfl
theorem str_beq (l m : List UInt8) : ((str l).toList == (str m).toList) = decide (l = m) := by
  rw [ByteArray.toList_eq, ByteArray.toList_eq, Bool.eq_iff_iff]
  simp [str]
theorem eqStr (l m : List UInt8) (w : World) : (binOp .eql 9 (.string (str l)) (.string (str m))).run Try.prog w = .ok (.bool (decide (l = m))) w := by
  rw [binOp_string_eql]
  simp only [Sem.run_pure, str_beq]


theorem ten_beq (a b : Ten) : (((((((((((((((decide (a.name = b.name) && ((a.vni : Int) == b.vni)) && decide (a.key = b.key)) && ((a.vtep : Int) == b.vtep)) && decide (a.vmac = b.vmac)) && decide (a.host = b.host)) && decide (a.pool = b.pool)) && ((a.lo : Int) == b.lo)) && ((a.hi : Int) == b.hi)) && (a.filter == b.filter)) && decide (a.statics = b.statics)) && decide (a.twices = b.twices)) && (a.sess == b.sess)) && (a.queue == b.queue)) && ((a.rate : Int) == b.rate)) && ((a.burst : Int) == b.burst)) = decide (a = b) := by
  obtain ⟨a0, a1, a2, a3, a4, a5, a6, a7, a8, a9, a10, a11, a12, a13, a14, a15⟩ := a
  obtain ⟨b0, b1, b2, b3, b4, b5, b6, b7, b8, b9, b10, b11, b12, b13, b14, b15⟩ := b
  rw [Bool.eq_iff_iff]
  simp only [nat_beq, Bool.and_eq_true, decide_eq_true_eq, beq_iff_eq, Ten.mk.injEq, and_assoc]

set_option maxRecDepth 100000 in
theorem box_ten (CA : Array Value) (h : CA.size = 33) : ∀ W, (Instr.box 30 (.agg CA)).run Try.prog W = .ok (.pointer (some ⟨W.heap.size, 0, none⟩)) (W.alloc (.cells CA 30)) := by
  intro W
  go_simp

set_option maxRecDepth 100000 in
set_option maxHeartbeats 2000000 in
theorem same_ok {S S' : Nat → Prop} {w : World} (a b : Ten) (va vb : Value) (ha : TenV S w a va) (hb : TenV S' w b vb) (la : a.pool.length ≤ 9223372036854775807) (ls : a.statics.length ≤ 9223372036854775807) (lt : a.twices.length ≤ 9223372036854775807) :
    Calls Try.prog 11 #[va, vb] w fun e w' => e = .returned (.bool (decide (a = b))) ∧ Mod No w w' := by
  obtain ⟨P, p, Q, q, R, r, rfl, h1, h2, h3⟩ := ha.val
  obtain ⟨P', p', Q', q', R', r', rfl, h1', h2', h3'⟩ := hb.val
  obtain ⟨CA, hCA⟩ : ∃ CA, CA = a.cells (.slice P a.pool.length p) (.slice Q a.statics.length q) (.slice R a.twices.length r) := ⟨_, rfl⟩
  obtain ⟨CB, hCB⟩ : ∃ CB, CB = b.cells (.slice P' b.pool.length p') (.slice Q' b.statics.length q') (.slice R' b.twices.length r') := ⟨_, rfl⟩
  have bA := box_ten CA (by rw [hCA]; rfl)
  have bB := box_ten CB (by rw [hCB]; rfl)
  rw [← hCA, ← hCB]
  have hm2 : ∀ q, Mod No w (((w.alloc (.cells CA 30)).alloc (.cells CB 30)).drewN q) := fun q => Mod.drewN (Mod.alloc (Mod.alloc (Mod.refl _ _) _) _) q
  have k1 : ∀ q, RowAt (fun b => S b ∧ b < w.heap.size) (((w.alloc (.cells CA 30)).alloc (.cells CB 30)).drewN q) P (numCells a.pool) := fun q => (h1.mono (fun b hb hs => ⟨hs, hb⟩)).keeps ((hm2 q).keeps (fun _ _ _ f => f))
  have k2 : ∀ q, RowAt (fun b => S b ∧ b < w.heap.size) (((w.alloc (.cells CA 30)).alloc (.cells CB 30)).drewN q) Q (prCells a.statics) := fun q => (h2.mono (fun b hb hs => ⟨hs, hb⟩)).keeps ((hm2 q).keeps (fun _ _ _ f => f))
  have k3 : ∀ q, RowAt (fun b => S b ∧ b < w.heap.size) (((w.alloc (.cells CA 30)).alloc (.cells CB 30)).drewN q) R (prCells a.twices) := fun q => (h3.mono (fun b hb hs => ⟨hs, hb⟩)).keeps ((hm2 q).keeps (fun _ _ _ f => f))
  have k1' : ∀ q, RowAt (fun b => S' b ∧ b < w.heap.size) (((w.alloc (.cells CA 30)).alloc (.cells CB 30)).drewN q) P' (numCells b.pool) := fun q => (h1'.mono (fun b hb hs => ⟨hs, hb⟩)).keeps ((hm2 q).keeps (fun _ _ _ f => f))
  have k2' : ∀ q, RowAt (fun b => S' b ∧ b < w.heap.size) (((w.alloc (.cells CA 30)).alloc (.cells CB 30)).drewN q) Q' (prCells b.statics) := fun q => (h2'.mono (fun b hb hs => ⟨hs, hb⟩)).keeps ((hm2 q).keeps (fun _ _ _ f => f))
  have k3' : ∀ q, RowAt (fun b => S' b ∧ b < w.heap.size) (((w.alloc (.cells CA 30)).alloc (.cells CB 30)).drewN q) R' (prCells b.twices) := fun q => (h3'.mono (fun b hb hs => ⟨hs, hb⟩)).keeps ((hm2 q).keeps (fun _ _ _ f => f))
  have hcells : ∀ q, (∀ j, (((w.alloc (.cells CA 30)).alloc (.cells CB 30)).drewN q).cell? ⟨w.heap.size, j, none⟩ = CA[j]?) ∧ (∀ j, (((w.alloc (.cells CA 30)).alloc (.cells CB 30)).drewN q).cell? ⟨w.heap.size + 1, j, none⟩ = CB[j]?) := fun q =>
    ⟨fun j => blk_cell (at20 w (.cells CA 30) (.cells CB 30)) j, fun j => blk_cell (at21 w (.cells CA 30) (.cells CB 30)) j⟩
  have HH := Lib.hid (And.intro k1 (And.intro k2 (And.intro k3 (And.intro k1' (And.intro k2' (And.intro k3' hcells))))))
  have HM := Lib.hid hm2
  have HA := Lib.hid hCA
  have HB := Lib.hid hCB
  clear ha hb h1 h2 h3 h1' h2' h3' k1 k2 k3 k1' k2' k3' hcells hm2 hCA hCB
  go_enter Try.func11, Try.ntmps11
  go_upto_region 1 with fail
  refine wp_region_lit ?_
  refine chain_first (n := 115) (pA := .pointer (some ⟨w.heap.size, 0, none⟩)) (pB := .pointer (some ⟨w.heap.size + 1, 0, none⟩)) (s1 := 5) (s2 := 6) (s3 := 7) (s4 := 8) (s5 := 9) (d' := 10) (e' := decide (a.name = b.name)) (R := (fun w' => ∃ q, w' = (((w.alloc (.cells CA 30)).alloc (.cells CB 30)).drewN q))) rfl rfl rfl rfl rfl rfl rfl rfl rfl rfl rfl rfl rfl rfl rfl rfl rfl rfl ?_ ?_
  ·
    have ca0 : CA[0]? = some (Value.string (str a.name)) := by rw [HA.out]; rfl
    have cb0 : CB[0]? = some (Value.string (str b.name)) := by rw [HB.out]; rfl
    refine ⟨.pointer (some ⟨w.heap.size, 0, none⟩), (.string (str a.name)), .pointer (some ⟨w.heap.size + 1, 0, none⟩), (.string (str b.name)), ?_, ?_, ?_, ?_, .inl ⟨?_, 0, rfl⟩⟩
    · intro ρ h; simp only [execOp, h]; go_simp
    · intro ρ h; simp only [execOp, h]; go_simp
    · intro ρ h; simp only [execOp, h]; go_simp
    · intro ρ h; simp only [execOp, h]; go_simp
    · intro ρ h1 h2; simp only [execOp, h1, h2]; go_simp; exact str_beq _ _
  rintro a0 _ hinv ⟨q1, rfl⟩
  refine chain_test (i := 5) (s1 := 11) (s2 := 12) (s3 := 13) (s4 := 14) (s5 := 15) (s6 := 16) (d' := 17) (e' := ((a.vni : Int) == b.vni)) (R := (fun w' => ∃ q, w' = (((w.alloc (.cells CA 30)).alloc (.cells CB 30)).drewN q))) hinv rfl rfl rfl rfl rfl rfl rfl rfl rfl rfl rfl rfl rfl rfl rfl rfl rfl (.inl rfl) ?_ ⟨q1, rfl⟩ ?_
  ·
    have ca1 : CA[1]? = some (Value.int .u32 (a.vni : Int)) := by rw [HA.out]; rfl
    have cb1 : CB[1]? = some (Value.int .u32 (b.vni : Int)) := by rw [HB.out]; rfl
    refine ⟨.pointer (some ⟨w.heap.size, 1, none⟩), (.int .u32 (a.vni : Int)), .pointer (some ⟨w.heap.size + 1, 1, none⟩), (.int .u32 (b.vni : Int)), ?_, ?_, ?_, ?_, .inl ⟨?_, q1, rfl⟩⟩
    · intro ρ h; simp only [execOp, h]; go_simp
    · intro ρ h; simp only [execOp, h]; go_simp
    · intro ρ h; simp only [execOp, h]; go_simp
    · intro ρ h; simp only [execOp, h]; go_simp
    · intro ρ h1 h2; simp only [execOp, h1, h2]; go_simp
  rintro a1 _ hinv ⟨q2, rfl⟩
  refine chain_test (i := 12) (s1 := 18) (s2 := 19) (s3 := 20) (s4 := 21) (s5 := 22) (s6 := 23) (d' := 24) (e' := decide (a.key = b.key)) (R := (fun w' => ∃ q, w' = (((w.alloc (.cells CA 30)).alloc (.cells CB 30)).drewN q))) hinv rfl rfl rfl rfl rfl rfl rfl rfl rfl rfl rfl rfl rfl rfl rfl rfl rfl (.inl rfl) ?_ ⟨q2, rfl⟩ ?_
  ·
    have ca2 : CA[2]? = some (Value.int .u8 (a.key.b0.toNat : Int)) := by rw [HA.out]; rfl
    have cb2 : CB[2]? = some (Value.int .u8 (b.key.b0.toNat : Int)) := by rw [HB.out]; rfl
    have ca3 : CA[3]? = some (Value.int .u8 (a.key.b1.toNat : Int)) := by rw [HA.out]; rfl
    have cb3 : CB[3]? = some (Value.int .u8 (b.key.b1.toNat : Int)) := by rw [HB.out]; rfl
    have ca4 : CA[4]? = some (Value.int .u8 (a.key.b2.toNat : Int)) := by rw [HA.out]; rfl
    have cb4 : CB[4]? = some (Value.int .u8 (b.key.b2.toNat : Int)) := by rw [HB.out]; rfl
    have ca5 : CA[5]? = some (Value.int .u8 (a.key.b3.toNat : Int)) := by rw [HA.out]; rfl
    have cb5 : CB[5]? = some (Value.int .u8 (b.key.b3.toNat : Int)) := by rw [HB.out]; rfl
    have ca6 : CA[6]? = some (Value.int .u8 (a.key.b4.toNat : Int)) := by rw [HA.out]; rfl
    have cb6 : CB[6]? = some (Value.int .u8 (b.key.b4.toNat : Int)) := by rw [HB.out]; rfl
    have ca7 : CA[7]? = some (Value.int .u8 (a.key.b5.toNat : Int)) := by rw [HA.out]; rfl
    have cb7 : CB[7]? = some (Value.int .u8 (b.key.b5.toNat : Int)) := by rw [HB.out]; rfl
    have ca8 : CA[8]? = some (Value.int .u8 (a.key.b6.toNat : Int)) := by rw [HA.out]; rfl
    have cb8 : CB[8]? = some (Value.int .u8 (b.key.b6.toNat : Int)) := by rw [HB.out]; rfl
    have ca9 : CA[9]? = some (Value.int .u8 (a.key.b7.toNat : Int)) := by rw [HA.out]; rfl
    have cb9 : CB[9]? = some (Value.int .u8 (b.key.b7.toNat : Int)) := by rw [HB.out]; rfl
    refine ⟨.pointer (some ⟨w.heap.size, 2, none⟩), (.agg #[.int .u8 (a.key.b0.toNat : Int), .int .u8 (a.key.b1.toNat : Int), .int .u8 (a.key.b2.toNat : Int), .int .u8 (a.key.b3.toNat : Int), .int .u8 (a.key.b4.toNat : Int), .int .u8 (a.key.b5.toNat : Int), .int .u8 (a.key.b6.toNat : Int), .int .u8 (a.key.b7.toNat : Int)]), .pointer (some ⟨w.heap.size + 1, 2, none⟩), (.agg #[.int .u8 (b.key.b0.toNat : Int), .int .u8 (b.key.b1.toNat : Int), .int .u8 (b.key.b2.toNat : Int), .int .u8 (b.key.b3.toNat : Int), .int .u8 (b.key.b4.toNat : Int), .int .u8 (b.key.b5.toNat : Int), .int .u8 (b.key.b6.toNat : Int), .int .u8 (b.key.b7.toNat : Int)]), ?_, ?_, ?_, ?_, .inl ⟨?_, q2, rfl⟩⟩
    · intro ρ h; simp only [execOp, h]; go_simp
    · intro ρ h; simp only [execOp, h]; go_simp
    · intro ρ h; simp only [execOp, h]; go_simp
    · intro ρ h; simp only [execOp, h]; go_simp
    · intro ρ h1 h2; simp only [execOp, h1, h2]; go_simp
  rintro a2 _ hinv ⟨q3, rfl⟩
  refine chain_test (i := 19) (s1 := 25) (s2 := 26) (s3 := 27) (s4 := 28) (s5 := 29) (s6 := 30) (d' := 31) (e' := ((a.vtep : Int) == b.vtep)) (R := (fun w' => ∃ q, w' = (((w.alloc (.cells CA 30)).alloc (.cells CB 30)).drewN q))) hinv rfl rfl rfl rfl rfl rfl rfl rfl rfl rfl rfl rfl rfl rfl rfl rfl rfl (.inl rfl) ?_ ⟨q3, rfl⟩ ?_
  ·
    have ca10 : CA[10]? = some (Value.int .u32 (a.vtep : Int)) := by rw [HA.out]; rfl
    have cb10 : CB[10]? = some (Value.int .u32 (b.vtep : Int)) := by rw [HB.out]; rfl
    refine ⟨.pointer (some ⟨w.heap.size, 10, none⟩), (.int .u32 (a.vtep : Int)), .pointer (some ⟨w.heap.size + 1, 10, none⟩), (.int .u32 (b.vtep : Int)), ?_, ?_, ?_, ?_, .inl ⟨?_, q3, rfl⟩⟩
    · intro ρ h; simp only [execOp, h]; go_simp
    · intro ρ h; simp only [execOp, h]; go_simp
    · intro ρ h; simp only [execOp, h]; go_simp
    · intro ρ h; simp only [execOp, h]; go_simp
    · intro ρ h1 h2; simp only [execOp, h1, h2]; go_simp
  rintro a3 _ hinv ⟨q4, rfl⟩
  refine chain_test (i := 26) (s1 := 32) (s2 := 33) (s3 := 34) (s4 := 35) (s5 := 36) (s6 := 37) (d' := 38) (e' := decide (a.vmac = b.vmac)) (R := (fun w' => ∃ q, w' = (((w.alloc (.cells CA 30)).alloc (.cells CB 30)).drewN q))) hinv rfl rfl rfl rfl rfl rfl rfl rfl rfl rfl rfl rfl rfl rfl rfl rfl rfl (.inl rfl) ?_ ⟨q4, rfl⟩ ?_
  ·
    have ca11 : CA[11]? = some (Value.int .u8 (a.vmac.b0.toNat : Int)) := by rw [HA.out]; rfl
    have cb11 : CB[11]? = some (Value.int .u8 (b.vmac.b0.toNat : Int)) := by rw [HB.out]; rfl
    have ca12 : CA[12]? = some (Value.int .u8 (a.vmac.b1.toNat : Int)) := by rw [HA.out]; rfl
    have cb12 : CB[12]? = some (Value.int .u8 (b.vmac.b1.toNat : Int)) := by rw [HB.out]; rfl
    have ca13 : CA[13]? = some (Value.int .u8 (a.vmac.b2.toNat : Int)) := by rw [HA.out]; rfl
    have cb13 : CB[13]? = some (Value.int .u8 (b.vmac.b2.toNat : Int)) := by rw [HB.out]; rfl
    have ca14 : CA[14]? = some (Value.int .u8 (a.vmac.b3.toNat : Int)) := by rw [HA.out]; rfl
    have cb14 : CB[14]? = some (Value.int .u8 (b.vmac.b3.toNat : Int)) := by rw [HB.out]; rfl
    have ca15 : CA[15]? = some (Value.int .u8 (a.vmac.b4.toNat : Int)) := by rw [HA.out]; rfl
    have cb15 : CB[15]? = some (Value.int .u8 (b.vmac.b4.toNat : Int)) := by rw [HB.out]; rfl
    have ca16 : CA[16]? = some (Value.int .u8 (a.vmac.b5.toNat : Int)) := by rw [HA.out]; rfl
    have cb16 : CB[16]? = some (Value.int .u8 (b.vmac.b5.toNat : Int)) := by rw [HB.out]; rfl
    refine ⟨.pointer (some ⟨w.heap.size, 11, none⟩), (.agg #[.int .u8 (a.vmac.b0.toNat : Int), .int .u8 (a.vmac.b1.toNat : Int), .int .u8 (a.vmac.b2.toNat : Int), .int .u8 (a.vmac.b3.toNat : Int), .int .u8 (a.vmac.b4.toNat : Int), .int .u8 (a.vmac.b5.toNat : Int)]), .pointer (some ⟨w.heap.size + 1, 11, none⟩), (.agg #[.int .u8 (b.vmac.b0.toNat : Int), .int .u8 (b.vmac.b1.toNat : Int), .int .u8 (b.vmac.b2.toNat : Int), .int .u8 (b.vmac.b3.toNat : Int), .int .u8 (b.vmac.b4.toNat : Int), .int .u8 (b.vmac.b5.toNat : Int)]), ?_, ?_, ?_, ?_, .inl ⟨?_, q4, rfl⟩⟩
    · intro ρ h; simp only [execOp, h]; go_simp
    · intro ρ h; simp only [execOp, h]; go_simp
    · intro ρ h; simp only [execOp, h]; go_simp
    · intro ρ h; simp only [execOp, h]; go_simp
    · intro ρ h1 h2; simp only [execOp, h1, h2]; go_simp
  rintro a4 _ hinv ⟨q5, rfl⟩
  refine chain_test (i := 33) (s1 := 39) (s2 := 40) (s3 := 41) (s4 := 42) (s5 := 43) (s6 := 44) (d' := 45) (e' := decide (a.host = b.host)) (R := (fun w' => ∃ q, w' = (((w.alloc (.cells CA 30)).alloc (.cells CB 30)).drewN q))) hinv rfl rfl rfl rfl rfl rfl rfl rfl rfl rfl rfl rfl rfl rfl rfl rfl rfl (.inl rfl) ?_ ⟨q5, rfl⟩ ?_
  ·
    have ca17 : CA[17]? = some (Value.int .u8 (a.host.b0.toNat : Int)) := by rw [HA.out]; rfl
    have cb17 : CB[17]? = some (Value.int .u8 (b.host.b0.toNat : Int)) := by rw [HB.out]; rfl
    have ca18 : CA[18]? = some (Value.int .u8 (a.host.b1.toNat : Int)) := by rw [HA.out]; rfl
    have cb18 : CB[18]? = some (Value.int .u8 (b.host.b1.toNat : Int)) := by rw [HB.out]; rfl
    have ca19 : CA[19]? = some (Value.int .u8 (a.host.b2.toNat : Int)) := by rw [HA.out]; rfl
    have cb19 : CB[19]? = some (Value.int .u8 (b.host.b2.toNat : Int)) := by rw [HB.out]; rfl
    have ca20 : CA[20]? = some (Value.int .u8 (a.host.b3.toNat : Int)) := by rw [HA.out]; rfl
    have cb20 : CB[20]? = some (Value.int .u8 (b.host.b3.toNat : Int)) := by rw [HB.out]; rfl
    have ca21 : CA[21]? = some (Value.int .u8 (a.host.b4.toNat : Int)) := by rw [HA.out]; rfl
    have cb21 : CB[21]? = some (Value.int .u8 (b.host.b4.toNat : Int)) := by rw [HB.out]; rfl
    have ca22 : CA[22]? = some (Value.int .u8 (a.host.b5.toNat : Int)) := by rw [HA.out]; rfl
    have cb22 : CB[22]? = some (Value.int .u8 (b.host.b5.toNat : Int)) := by rw [HB.out]; rfl
    refine ⟨.pointer (some ⟨w.heap.size, 17, none⟩), (.agg #[.int .u8 (a.host.b0.toNat : Int), .int .u8 (a.host.b1.toNat : Int), .int .u8 (a.host.b2.toNat : Int), .int .u8 (a.host.b3.toNat : Int), .int .u8 (a.host.b4.toNat : Int), .int .u8 (a.host.b5.toNat : Int)]), .pointer (some ⟨w.heap.size + 1, 17, none⟩), (.agg #[.int .u8 (b.host.b0.toNat : Int), .int .u8 (b.host.b1.toNat : Int), .int .u8 (b.host.b2.toNat : Int), .int .u8 (b.host.b3.toNat : Int), .int .u8 (b.host.b4.toNat : Int), .int .u8 (b.host.b5.toNat : Int)]), ?_, ?_, ?_, ?_, .inl ⟨?_, q5, rfl⟩⟩
    · intro ρ h; simp only [execOp, h]; go_simp
    · intro ρ h; simp only [execOp, h]; go_simp
    · intro ρ h; simp only [execOp, h]; go_simp
    · intro ρ h; simp only [execOp, h]; go_simp
    · intro ρ h1 h2; simp only [execOp, h1, h2]; go_simp
  rintro a5 _ hinv ⟨q6, rfl⟩
  refine chain_test (i := 40) (s1 := 46) (s2 := 47) (s3 := 48) (s4 := 49) (s5 := 50) (s6 := 51) (d' := 52) (e' := decide (a.pool = b.pool)) (R := (fun w' => ∃ q, w' = (((w.alloc (.cells CA 30)).alloc (.cells CB 30)).drewN q))) hinv rfl rfl rfl rfl rfl rfl rfl rfl rfl rfl rfl rfl rfl rfl rfl rfl rfl (.inl rfl) ?_ ⟨q6, rfl⟩ ?_
  ·
    have ca23 : CA[23]? = some (Value.slice P a.pool.length p) := by rw [HA.out]; rfl
    have cb23 : CB[23]? = some (Value.slice P' b.pool.length p') := by rw [HB.out]; rfl
    refine ⟨.pointer (some ⟨w.heap.size, 23, none⟩), (.slice P a.pool.length p), .pointer (some ⟨w.heap.size + 1, 23, none⟩), (.slice P' b.pool.length p'), ?_, ?_, ?_, ?_, .inr ⟨31, ?_, (equalU_ok P P' p p' _ _ _ (HH.out.1 q6) (HH.out.2.2.2.1 q6) la).mono (fun e w' ⟨h1, n1, h2⟩ => ⟨h1, q6 + n1, by rw [h2]; exact World.drewN_drewN ..⟩)⟩⟩
    · intro ρ h; simp only [execOp, h]; go_simp
    · intro ρ h; simp only [execOp, h]; go_simp
    · intro ρ h; simp only [execOp, h]; go_simp
    · intro ρ h; simp only [execOp, h]; go_simp
    · intro ρ hf h1 h2; simp only [execOp, resolve, hf]; go_simp
  rintro a6 _ hinv ⟨q7, rfl⟩
  refine chain_test (i := 47) (s1 := 53) (s2 := 54) (s3 := 55) (s4 := 56) (s5 := 57) (s6 := 58) (d' := 59) (e' := ((a.lo : Int) == b.lo)) (R := (fun w' => ∃ q, w' = (((w.alloc (.cells CA 30)).alloc (.cells CB 30)).drewN q))) hinv rfl rfl rfl rfl rfl rfl rfl rfl rfl rfl rfl rfl rfl rfl rfl rfl rfl (.inl rfl) ?_ ⟨q7, rfl⟩ ?_
  ·
    have ca24 : CA[24]? = some (Value.int .u16 (a.lo : Int)) := by rw [HA.out]; rfl
    have cb24 : CB[24]? = some (Value.int .u16 (b.lo : Int)) := by rw [HB.out]; rfl
    refine ⟨.pointer (some ⟨w.heap.size, 24, none⟩), (.int .u16 (a.lo : Int)), .pointer (some ⟨w.heap.size + 1, 24, none⟩), (.int .u16 (b.lo : Int)), ?_, ?_, ?_, ?_, .inl ⟨?_, q7, rfl⟩⟩
    · intro ρ h; simp only [execOp, h]; go_simp
    · intro ρ h; simp only [execOp, h]; go_simp
    · intro ρ h; simp only [execOp, h]; go_simp
    · intro ρ h; simp only [execOp, h]; go_simp
    · intro ρ h1 h2; simp only [execOp, h1, h2]; go_simp
  rintro a7 _ hinv ⟨q8, rfl⟩
  refine chain_test (i := 54) (s1 := 60) (s2 := 61) (s3 := 62) (s4 := 63) (s5 := 64) (s6 := 65) (d' := 66) (e' := ((a.hi : Int) == b.hi)) (R := (fun w' => ∃ q, w' = (((w.alloc (.cells CA 30)).alloc (.cells CB 30)).drewN q))) hinv rfl rfl rfl rfl rfl rfl rfl rfl rfl rfl rfl rfl rfl rfl rfl rfl rfl (.inl rfl) ?_ ⟨q8, rfl⟩ ?_
  ·
    have ca25 : CA[25]? = some (Value.int .u16 (a.hi : Int)) := by rw [HA.out]; rfl
    have cb25 : CB[25]? = some (Value.int .u16 (b.hi : Int)) := by rw [HB.out]; rfl
    refine ⟨.pointer (some ⟨w.heap.size, 25, none⟩), (.int .u16 (a.hi : Int)), .pointer (some ⟨w.heap.size + 1, 25, none⟩), (.int .u16 (b.hi : Int)), ?_, ?_, ?_, ?_, .inl ⟨?_, q8, rfl⟩⟩
    · intro ρ h; simp only [execOp, h]; go_simp
    · intro ρ h; simp only [execOp, h]; go_simp
    · intro ρ h; simp only [execOp, h]; go_simp
    · intro ρ h; simp only [execOp, h]; go_simp
    · intro ρ h1 h2; simp only [execOp, h1, h2]; go_simp
  rintro a8 _ hinv ⟨q9, rfl⟩
  refine chain_test (i := 61) (s1 := 67) (s2 := 68) (s3 := 69) (s4 := 70) (s5 := 71) (s6 := 72) (d' := 73) (e' := (a.filter == b.filter)) (R := (fun w' => ∃ q, w' = (((w.alloc (.cells CA 30)).alloc (.cells CB 30)).drewN q))) hinv rfl rfl rfl rfl rfl rfl rfl rfl rfl rfl rfl rfl rfl rfl rfl rfl rfl (.inl rfl) ?_ ⟨q9, rfl⟩ ?_
  ·
    have ca26 : CA[26]? = some (Value.int .i64 a.filter) := by rw [HA.out]; rfl
    have cb26 : CB[26]? = some (Value.int .i64 b.filter) := by rw [HB.out]; rfl
    refine ⟨.pointer (some ⟨w.heap.size, 26, none⟩), (.int .i64 a.filter), .pointer (some ⟨w.heap.size + 1, 26, none⟩), (.int .i64 b.filter), ?_, ?_, ?_, ?_, .inl ⟨?_, q9, rfl⟩⟩
    · intro ρ h; simp only [execOp, h]; go_simp
    · intro ρ h; simp only [execOp, h]; go_simp
    · intro ρ h; simp only [execOp, h]; go_simp
    · intro ρ h; simp only [execOp, h]; go_simp
    · intro ρ h1 h2; simp only [execOp, h1, h2]; go_simp
  rintro a9 _ hinv ⟨q10, rfl⟩
  refine chain_test (i := 68) (s1 := 74) (s2 := 75) (s3 := 76) (s4 := 77) (s5 := 78) (s6 := 79) (d' := 80) (e' := decide (a.statics = b.statics)) (R := (fun w' => ∃ q, w' = (((w.alloc (.cells CA 30)).alloc (.cells CB 30)).drewN q))) hinv rfl rfl rfl rfl rfl rfl rfl rfl rfl rfl rfl rfl rfl rfl rfl rfl rfl (.inl rfl) ?_ ⟨q10, rfl⟩ ?_
  ·
    have ca27 : CA[27]? = some (Value.slice Q a.statics.length q) := by rw [HA.out]; rfl
    have cb27 : CB[27]? = some (Value.slice Q' b.statics.length q') := by rw [HB.out]; rfl
    refine ⟨.pointer (some ⟨w.heap.size, 27, none⟩), (.slice Q a.statics.length q), .pointer (some ⟨w.heap.size + 1, 27, none⟩), (.slice Q' b.statics.length q'), ?_, ?_, ?_, ?_, .inr ⟨32, ?_, (equalP_ok Q Q' q q' _ _ _ (HH.out.2.1 q10) (HH.out.2.2.2.2.1 q10) ls).mono (fun e w' ⟨h1, n1, h2⟩ => ⟨h1, q10 + n1, by rw [h2]; exact World.drewN_drewN ..⟩)⟩⟩
    · intro ρ h; simp only [execOp, h]; go_simp
    · intro ρ h; simp only [execOp, h]; go_simp
    · intro ρ h; simp only [execOp, h]; go_simp
    · intro ρ h; simp only [execOp, h]; go_simp
    · intro ρ hf h1 h2; simp only [execOp, resolve, hf]; go_simp
  rintro a10 _ hinv ⟨q11, rfl⟩
  refine chain_test (i := 75) (s1 := 81) (s2 := 82) (s3 := 83) (s4 := 84) (s5 := 85) (s6 := 86) (d' := 87) (e' := decide (a.twices = b.twices)) (R := (fun w' => ∃ q, w' = (((w.alloc (.cells CA 30)).alloc (.cells CB 30)).drewN q))) hinv rfl rfl rfl rfl rfl rfl rfl rfl rfl rfl rfl rfl rfl rfl rfl rfl rfl (.inl rfl) ?_ ⟨q11, rfl⟩ ?_
  ·
    have ca28 : CA[28]? = some (Value.slice R a.twices.length r) := by rw [HA.out]; rfl
    have cb28 : CB[28]? = some (Value.slice R' b.twices.length r') := by rw [HB.out]; rfl
    refine ⟨.pointer (some ⟨w.heap.size, 28, none⟩), (.slice R a.twices.length r), .pointer (some ⟨w.heap.size + 1, 28, none⟩), (.slice R' b.twices.length r'), ?_, ?_, ?_, ?_, .inr ⟨32, ?_, (equalP_ok R R' r r' _ _ _ (HH.out.2.2.1 q11) (HH.out.2.2.2.2.2.1 q11) lt).mono (fun e w' ⟨h1, n1, h2⟩ => ⟨h1, q11 + n1, by rw [h2]; exact World.drewN_drewN ..⟩)⟩⟩
    · intro ρ h; simp only [execOp, h]; go_simp
    · intro ρ h; simp only [execOp, h]; go_simp
    · intro ρ h; simp only [execOp, h]; go_simp
    · intro ρ h; simp only [execOp, h]; go_simp
    · intro ρ hf h1 h2; simp only [execOp, resolve, hf]; go_simp
  rintro a11 _ hinv ⟨q12, rfl⟩
  refine chain_test (i := 82) (s1 := 88) (s2 := 89) (s3 := 90) (s4 := 91) (s5 := 92) (s6 := 93) (d' := 94) (e' := (a.sess == b.sess)) (R := (fun w' => ∃ q, w' = (((w.alloc (.cells CA 30)).alloc (.cells CB 30)).drewN q))) hinv rfl rfl rfl rfl rfl rfl rfl rfl rfl rfl rfl rfl rfl rfl rfl rfl rfl (.inl rfl) ?_ ⟨q12, rfl⟩ ?_
  ·
    have ca29 : CA[29]? = some (Value.int .i64 a.sess) := by rw [HA.out]; rfl
    have cb29 : CB[29]? = some (Value.int .i64 b.sess) := by rw [HB.out]; rfl
    refine ⟨.pointer (some ⟨w.heap.size, 29, none⟩), (.int .i64 a.sess), .pointer (some ⟨w.heap.size + 1, 29, none⟩), (.int .i64 b.sess), ?_, ?_, ?_, ?_, .inl ⟨?_, q12, rfl⟩⟩
    · intro ρ h; simp only [execOp, h]; go_simp
    · intro ρ h; simp only [execOp, h]; go_simp
    · intro ρ h; simp only [execOp, h]; go_simp
    · intro ρ h; simp only [execOp, h]; go_simp
    · intro ρ h1 h2; simp only [execOp, h1, h2]; go_simp
  rintro a12 _ hinv ⟨q13, rfl⟩
  refine chain_test (i := 89) (s1 := 95) (s2 := 96) (s3 := 97) (s4 := 98) (s5 := 99) (s6 := 100) (d' := 101) (e' := (a.queue == b.queue)) (R := (fun w' => ∃ q, w' = (((w.alloc (.cells CA 30)).alloc (.cells CB 30)).drewN q))) hinv rfl rfl rfl rfl rfl rfl rfl rfl rfl rfl rfl rfl rfl rfl rfl rfl rfl (.inl rfl) ?_ ⟨q13, rfl⟩ ?_
  ·
    have ca30 : CA[30]? = some (Value.int .i64 a.queue) := by rw [HA.out]; rfl
    have cb30 : CB[30]? = some (Value.int .i64 b.queue) := by rw [HB.out]; rfl
    refine ⟨.pointer (some ⟨w.heap.size, 30, none⟩), (.int .i64 a.queue), .pointer (some ⟨w.heap.size + 1, 30, none⟩), (.int .i64 b.queue), ?_, ?_, ?_, ?_, .inl ⟨?_, q13, rfl⟩⟩
    · intro ρ h; simp only [execOp, h]; go_simp
    · intro ρ h; simp only [execOp, h]; go_simp
    · intro ρ h; simp only [execOp, h]; go_simp
    · intro ρ h; simp only [execOp, h]; go_simp
    · intro ρ h1 h2; simp only [execOp, h1, h2]; go_simp
  rintro a13 _ hinv ⟨q14, rfl⟩
  refine chain_test (i := 96) (s1 := 102) (s2 := 103) (s3 := 104) (s4 := 105) (s5 := 106) (s6 := 107) (d' := 108) (e' := ((a.rate : Int) == b.rate)) (R := (fun w' => ∃ q, w' = (((w.alloc (.cells CA 30)).alloc (.cells CB 30)).drewN q))) hinv rfl rfl rfl rfl rfl rfl rfl rfl rfl rfl rfl rfl rfl rfl rfl rfl rfl (.inl rfl) ?_ ⟨q14, rfl⟩ ?_
  ·
    have ca31 : CA[31]? = some (Value.int .u32 (a.rate : Int)) := by rw [HA.out]; rfl
    have cb31 : CB[31]? = some (Value.int .u32 (b.rate : Int)) := by rw [HB.out]; rfl
    refine ⟨.pointer (some ⟨w.heap.size, 31, none⟩), (.int .u32 (a.rate : Int)), .pointer (some ⟨w.heap.size + 1, 31, none⟩), (.int .u32 (b.rate : Int)), ?_, ?_, ?_, ?_, .inl ⟨?_, q14, rfl⟩⟩
    · intro ρ h; simp only [execOp, h]; go_simp
    · intro ρ h; simp only [execOp, h]; go_simp
    · intro ρ h; simp only [execOp, h]; go_simp
    · intro ρ h; simp only [execOp, h]; go_simp
    · intro ρ h1 h2; simp only [execOp, h1, h2]; go_simp
  rintro a14 _ hinv ⟨q15, rfl⟩
  refine chain_test (i := 103) (s1 := 109) (s2 := 110) (s3 := 111) (s4 := 112) (s5 := 113) (s6 := 114) (d' := 4) (e' := ((a.burst : Int) == b.burst)) (R := (fun w' => ∃ q, w' = (((w.alloc (.cells CA 30)).alloc (.cells CB 30)).drewN q))) hinv rfl rfl rfl rfl rfl rfl rfl rfl rfl rfl rfl rfl rfl rfl rfl rfl rfl (.inr rfl) ?_ ⟨q15, rfl⟩ ?_
  ·
    have ca32 : CA[32]? = some (Value.int .u32 (a.burst : Int)) := by rw [HA.out]; rfl
    have cb32 : CB[32]? = some (Value.int .u32 (b.burst : Int)) := by rw [HB.out]; rfl
    refine ⟨.pointer (some ⟨w.heap.size, 32, none⟩), (.int .u32 (a.burst : Int)), .pointer (some ⟨w.heap.size + 1, 32, none⟩), (.int .u32 (b.burst : Int)), ?_, ?_, ?_, ?_, .inl ⟨?_, q15, rfl⟩⟩
    · intro ρ h; simp only [execOp, h]; go_simp
    · intro ρ h; simp only [execOp, h]; go_simp
    · intro ρ h; simp only [execOp, h]; go_simp
    · intro ρ h; simp only [execOp, h]; go_simp
    · intro ρ h1 h2; simp only [execOp, h1, h2]; go_simp
  rintro ⟨tm, df⟩ _ hinv ⟨q16, rfl⟩
  refine wpList_nil ?_
  have hres := hinv.tb
  obtain rfl : df = [] := hinv.defers
  clear hinv
  go_wp2
  go_ret
  refine ⟨?_, HM.out _⟩
  have : tm.getD 4 undef = .bool (decide (a = b)) := by
    rw [Array.getD_eq_getD_getElem?, hres, ← ten_beq a b]
    rfl
  rw [← this]

set_option maxRecDepth 100000 in
set_option maxHeartbeats 2000000 in
theorem tenant_ok {S S' : Nat → Prop} {w : World} (a b : Ten) (va vb : Value) (ha : TenV S w a va) (hb : TenV S' w b vb) (la : a.pool.length ≤ 9223372036854775807) (ls : a.statics.length ≤ 9223372036854775807) (lt : a.twices.length ≤ 9223372036854775807) :
    Calls Try.prog 12 #[va, vb] w fun e w' => e = .returned (.bool (decide (a = b))) ∧ Mod No w w' := by
  obtain ⟨P, p, Q, q, R, r, rfl, h1, h2, h3⟩ := ha.val
  obtain ⟨P', p', Q', q', R', r', rfl, h1', h2', h3'⟩ := hb.val
  obtain ⟨CA, hCA⟩ : ∃ CA, CA = a.cells (.slice P a.pool.length p) (.slice Q a.statics.length q) (.slice R a.twices.length r) := ⟨_, rfl⟩
  obtain ⟨CB, hCB⟩ : ∃ CB, CB = b.cells (.slice P' b.pool.length p') (.slice Q' b.statics.length q') (.slice R' b.twices.length r') := ⟨_, rfl⟩
  have bA := box_ten CA (by rw [hCA]; rfl)
  have bB := box_ten CB (by rw [hCB]; rfl)
  rw [← hCA, ← hCB]
  have hm2 : ∀ q, Mod No w (((w.alloc (.cells CA 30)).alloc (.cells CB 30)).drewN q) := fun q => Mod.drewN (Mod.alloc (Mod.alloc (Mod.refl _ _) _) _) q
  have k1 : ∀ q, RowAt (fun b => S b ∧ b < w.heap.size) (((w.alloc (.cells CA 30)).alloc (.cells CB 30)).drewN q) P (numCells a.pool) := fun q => (h1.mono (fun b hb hs => ⟨hs, hb⟩)).keeps ((hm2 q).keeps (fun _ _ _ f => f))
  have k2 : ∀ q, RowAt (fun b => S b ∧ b < w.heap.size) (((w.alloc (.cells CA 30)).alloc (.cells CB 30)).drewN q) Q (prCells a.statics) := fun q => (h2.mono (fun b hb hs => ⟨hs, hb⟩)).keeps ((hm2 q).keeps (fun _ _ _ f => f))
  have k3 : ∀ q, RowAt (fun b => S b ∧ b < w.heap.size) (((w.alloc (.cells CA 30)).alloc (.cells CB 30)).drewN q) R (prCells a.twices) := fun q => (h3.mono (fun b hb hs => ⟨hs, hb⟩)).keeps ((hm2 q).keeps (fun _ _ _ f => f))
  have k1' : ∀ q, RowAt (fun b => S' b ∧ b < w.heap.size) (((w.alloc (.cells CA 30)).alloc (.cells CB 30)).drewN q) P' (numCells b.pool) := fun q => (h1'.mono (fun b hb hs => ⟨hs, hb⟩)).keeps ((hm2 q).keeps (fun _ _ _ f => f))
  have k2' : ∀ q, RowAt (fun b => S' b ∧ b < w.heap.size) (((w.alloc (.cells CA 30)).alloc (.cells CB 30)).drewN q) Q' (prCells b.statics) := fun q => (h2'.mono (fun b hb hs => ⟨hs, hb⟩)).keeps ((hm2 q).keeps (fun _ _ _ f => f))
  have k3' : ∀ q, RowAt (fun b => S' b ∧ b < w.heap.size) (((w.alloc (.cells CA 30)).alloc (.cells CB 30)).drewN q) R' (prCells b.twices) := fun q => (h3'.mono (fun b hb hs => ⟨hs, hb⟩)).keeps ((hm2 q).keeps (fun _ _ _ f => f))
  have hcells : ∀ q, (∀ j, (((w.alloc (.cells CA 30)).alloc (.cells CB 30)).drewN q).cell? ⟨w.heap.size, j, none⟩ = CA[j]?) ∧ (∀ j, (((w.alloc (.cells CA 30)).alloc (.cells CB 30)).drewN q).cell? ⟨w.heap.size + 1, j, none⟩ = CB[j]?) := fun q =>
    ⟨fun j => blk_cell (at20 w (.cells CA 30) (.cells CB 30)) j, fun j => blk_cell (at21 w (.cells CA 30) (.cells CB 30)) j⟩
  have HH := Lib.hid (And.intro k1 (And.intro k2 (And.intro k3 (And.intro k1' (And.intro k2' (And.intro k3' hcells))))))
  have HM := Lib.hid hm2
  have HA := Lib.hid hCA
  have HB := Lib.hid hCB
  clear ha hb h1 h2 h3 h1' h2' h3' k1 k2 k3 k1' k2' k3' hcells hm2 hCA hCB
  go_enter Try.func12, Try.ntmps12
  go_upto_region 1 with fail
  refine wp_region_lit ?_
  refine chain_first (n := 115) (pA := .pointer (some ⟨w.heap.size, 0, none⟩)) (pB := .pointer (some ⟨w.heap.size + 1, 0, none⟩)) (s1 := 5) (s2 := 6) (s3 := 7) (s4 := 8) (s5 := 9) (d' := 10) (e' := decide (a.name = b.name)) (R := (fun w' => ∃ q, w' = (((w.alloc (.cells CA 30)).alloc (.cells CB 30)).drewN q))) rfl rfl rfl rfl rfl rfl rfl rfl rfl rfl rfl rfl rfl rfl rfl rfl rfl rfl ?_ ?_
  ·
    have ca0 : CA[0]? = some (Value.string (str a.name)) := by rw [HA.out]; rfl
    have cb0 : CB[0]? = some (Value.string (str b.name)) := by rw [HB.out]; rfl
    refine ⟨.pointer (some ⟨w.heap.size, 0, none⟩), (.string (str a.name)), .pointer (some ⟨w.heap.size + 1, 0, none⟩), (.string (str b.name)), ?_, ?_, ?_, ?_, .inl ⟨?_, 0, rfl⟩⟩
    · intro ρ h; simp only [execOp, h]; go_simp
    · intro ρ h; simp only [execOp, h]; go_simp
    · intro ρ h; simp only [execOp, h]; go_simp
    · intro ρ h; simp only [execOp, h]; go_simp
    · intro ρ h1 h2; simp only [execOp, h1, h2]; go_simp; exact str_beq _ _
  rintro a0 _ hinv ⟨q1, rfl⟩
  refine chain_test (i := 5) (s1 := 11) (s2 := 12) (s3 := 13) (s4 := 14) (s5 := 15) (s6 := 16) (d' := 17) (e' := ((a.vni : Int) == b.vni)) (R := (fun w' => ∃ q, w' = (((w.alloc (.cells CA 30)).alloc (.cells CB 30)).drewN q))) hinv rfl rfl rfl rfl rfl rfl rfl rfl rfl rfl rfl rfl rfl rfl rfl rfl rfl (.inl rfl) ?_ ⟨q1, rfl⟩ ?_
  ·
    have ca1 : CA[1]? = some (Value.int .u32 (a.vni : Int)) := by rw [HA.out]; rfl
    have cb1 : CB[1]? = some (Value.int .u32 (b.vni : Int)) := by rw [HB.out]; rfl
    refine ⟨.pointer (some ⟨w.heap.size, 1, none⟩), (.int .u32 (a.vni : Int)), .pointer (some ⟨w.heap.size + 1, 1, none⟩), (.int .u32 (b.vni : Int)), ?_, ?_, ?_, ?_, .inl ⟨?_, q1, rfl⟩⟩
    · intro ρ h; simp only [execOp, h]; go_simp
    · intro ρ h; simp only [execOp, h]; go_simp
    · intro ρ h; simp only [execOp, h]; go_simp
    · intro ρ h; simp only [execOp, h]; go_simp
    · intro ρ h1 h2; simp only [execOp, h1, h2]; go_simp
  rintro a1 _ hinv ⟨q2, rfl⟩
  refine chain_test (i := 12) (s1 := 18) (s2 := 19) (s3 := 20) (s4 := 21) (s5 := 22) (s6 := 23) (d' := 24) (e' := decide (a.key = b.key)) (R := (fun w' => ∃ q, w' = (((w.alloc (.cells CA 30)).alloc (.cells CB 30)).drewN q))) hinv rfl rfl rfl rfl rfl rfl rfl rfl rfl rfl rfl rfl rfl rfl rfl rfl rfl (.inl rfl) ?_ ⟨q2, rfl⟩ ?_
  ·
    have ca2 : CA[2]? = some (Value.int .u8 (a.key.b0.toNat : Int)) := by rw [HA.out]; rfl
    have cb2 : CB[2]? = some (Value.int .u8 (b.key.b0.toNat : Int)) := by rw [HB.out]; rfl
    have ca3 : CA[3]? = some (Value.int .u8 (a.key.b1.toNat : Int)) := by rw [HA.out]; rfl
    have cb3 : CB[3]? = some (Value.int .u8 (b.key.b1.toNat : Int)) := by rw [HB.out]; rfl
    have ca4 : CA[4]? = some (Value.int .u8 (a.key.b2.toNat : Int)) := by rw [HA.out]; rfl
    have cb4 : CB[4]? = some (Value.int .u8 (b.key.b2.toNat : Int)) := by rw [HB.out]; rfl
    have ca5 : CA[5]? = some (Value.int .u8 (a.key.b3.toNat : Int)) := by rw [HA.out]; rfl
    have cb5 : CB[5]? = some (Value.int .u8 (b.key.b3.toNat : Int)) := by rw [HB.out]; rfl
    have ca6 : CA[6]? = some (Value.int .u8 (a.key.b4.toNat : Int)) := by rw [HA.out]; rfl
    have cb6 : CB[6]? = some (Value.int .u8 (b.key.b4.toNat : Int)) := by rw [HB.out]; rfl
    have ca7 : CA[7]? = some (Value.int .u8 (a.key.b5.toNat : Int)) := by rw [HA.out]; rfl
    have cb7 : CB[7]? = some (Value.int .u8 (b.key.b5.toNat : Int)) := by rw [HB.out]; rfl
    have ca8 : CA[8]? = some (Value.int .u8 (a.key.b6.toNat : Int)) := by rw [HA.out]; rfl
    have cb8 : CB[8]? = some (Value.int .u8 (b.key.b6.toNat : Int)) := by rw [HB.out]; rfl
    have ca9 : CA[9]? = some (Value.int .u8 (a.key.b7.toNat : Int)) := by rw [HA.out]; rfl
    have cb9 : CB[9]? = some (Value.int .u8 (b.key.b7.toNat : Int)) := by rw [HB.out]; rfl
    refine ⟨.pointer (some ⟨w.heap.size, 2, none⟩), (.agg #[.int .u8 (a.key.b0.toNat : Int), .int .u8 (a.key.b1.toNat : Int), .int .u8 (a.key.b2.toNat : Int), .int .u8 (a.key.b3.toNat : Int), .int .u8 (a.key.b4.toNat : Int), .int .u8 (a.key.b5.toNat : Int), .int .u8 (a.key.b6.toNat : Int), .int .u8 (a.key.b7.toNat : Int)]), .pointer (some ⟨w.heap.size + 1, 2, none⟩), (.agg #[.int .u8 (b.key.b0.toNat : Int), .int .u8 (b.key.b1.toNat : Int), .int .u8 (b.key.b2.toNat : Int), .int .u8 (b.key.b3.toNat : Int), .int .u8 (b.key.b4.toNat : Int), .int .u8 (b.key.b5.toNat : Int), .int .u8 (b.key.b6.toNat : Int), .int .u8 (b.key.b7.toNat : Int)]), ?_, ?_, ?_, ?_, .inl ⟨?_, q2, rfl⟩⟩
    · intro ρ h; simp only [execOp, h]; go_simp
    · intro ρ h; simp only [execOp, h]; go_simp
    · intro ρ h; simp only [execOp, h]; go_simp
    · intro ρ h; simp only [execOp, h]; go_simp
    · intro ρ h1 h2; simp only [execOp, h1, h2]; go_simp
  rintro a2 _ hinv ⟨q3, rfl⟩
  refine chain_test (i := 19) (s1 := 25) (s2 := 26) (s3 := 27) (s4 := 28) (s5 := 29) (s6 := 30) (d' := 31) (e' := ((a.vtep : Int) == b.vtep)) (R := (fun w' => ∃ q, w' = (((w.alloc (.cells CA 30)).alloc (.cells CB 30)).drewN q))) hinv rfl rfl rfl rfl rfl rfl rfl rfl rfl rfl rfl rfl rfl rfl rfl rfl rfl (.inl rfl) ?_ ⟨q3, rfl⟩ ?_
  ·
    have ca10 : CA[10]? = some (Value.int .u32 (a.vtep : Int)) := by rw [HA.out]; rfl
    have cb10 : CB[10]? = some (Value.int .u32 (b.vtep : Int)) := by rw [HB.out]; rfl
    refine ⟨.pointer (some ⟨w.heap.size, 10, none⟩), (.int .u32 (a.vtep : Int)), .pointer (some ⟨w.heap.size + 1, 10, none⟩), (.int .u32 (b.vtep : Int)), ?_, ?_, ?_, ?_, .inl ⟨?_, q3, rfl⟩⟩
    · intro ρ h; simp only [execOp, h]; go_simp
    · intro ρ h; simp only [execOp, h]; go_simp
    · intro ρ h; simp only [execOp, h]; go_simp
    · intro ρ h; simp only [execOp, h]; go_simp
    · intro ρ h1 h2; simp only [execOp, h1, h2]; go_simp
  rintro a3 _ hinv ⟨q4, rfl⟩
  refine chain_test (i := 26) (s1 := 32) (s2 := 33) (s3 := 34) (s4 := 35) (s5 := 36) (s6 := 37) (d' := 38) (e' := decide (a.vmac = b.vmac)) (R := (fun w' => ∃ q, w' = (((w.alloc (.cells CA 30)).alloc (.cells CB 30)).drewN q))) hinv rfl rfl rfl rfl rfl rfl rfl rfl rfl rfl rfl rfl rfl rfl rfl rfl rfl (.inl rfl) ?_ ⟨q4, rfl⟩ ?_
  ·
    have ca11 : CA[11]? = some (Value.int .u8 (a.vmac.b0.toNat : Int)) := by rw [HA.out]; rfl
    have cb11 : CB[11]? = some (Value.int .u8 (b.vmac.b0.toNat : Int)) := by rw [HB.out]; rfl
    have ca12 : CA[12]? = some (Value.int .u8 (a.vmac.b1.toNat : Int)) := by rw [HA.out]; rfl
    have cb12 : CB[12]? = some (Value.int .u8 (b.vmac.b1.toNat : Int)) := by rw [HB.out]; rfl
    have ca13 : CA[13]? = some (Value.int .u8 (a.vmac.b2.toNat : Int)) := by rw [HA.out]; rfl
    have cb13 : CB[13]? = some (Value.int .u8 (b.vmac.b2.toNat : Int)) := by rw [HB.out]; rfl
    have ca14 : CA[14]? = some (Value.int .u8 (a.vmac.b3.toNat : Int)) := by rw [HA.out]; rfl
    have cb14 : CB[14]? = some (Value.int .u8 (b.vmac.b3.toNat : Int)) := by rw [HB.out]; rfl
    have ca15 : CA[15]? = some (Value.int .u8 (a.vmac.b4.toNat : Int)) := by rw [HA.out]; rfl
    have cb15 : CB[15]? = some (Value.int .u8 (b.vmac.b4.toNat : Int)) := by rw [HB.out]; rfl
    have ca16 : CA[16]? = some (Value.int .u8 (a.vmac.b5.toNat : Int)) := by rw [HA.out]; rfl
    have cb16 : CB[16]? = some (Value.int .u8 (b.vmac.b5.toNat : Int)) := by rw [HB.out]; rfl
    refine ⟨.pointer (some ⟨w.heap.size, 11, none⟩), (.agg #[.int .u8 (a.vmac.b0.toNat : Int), .int .u8 (a.vmac.b1.toNat : Int), .int .u8 (a.vmac.b2.toNat : Int), .int .u8 (a.vmac.b3.toNat : Int), .int .u8 (a.vmac.b4.toNat : Int), .int .u8 (a.vmac.b5.toNat : Int)]), .pointer (some ⟨w.heap.size + 1, 11, none⟩), (.agg #[.int .u8 (b.vmac.b0.toNat : Int), .int .u8 (b.vmac.b1.toNat : Int), .int .u8 (b.vmac.b2.toNat : Int), .int .u8 (b.vmac.b3.toNat : Int), .int .u8 (b.vmac.b4.toNat : Int), .int .u8 (b.vmac.b5.toNat : Int)]), ?_, ?_, ?_, ?_, .inl ⟨?_, q4, rfl⟩⟩
    · intro ρ h; simp only [execOp, h]; go_simp
    · intro ρ h; simp only [execOp, h]; go_simp
    · intro ρ h; simp only [execOp, h]; go_simp
    · intro ρ h; simp only [execOp, h]; go_simp
    · intro ρ h1 h2; simp only [execOp, h1, h2]; go_simp
  rintro a4 _ hinv ⟨q5, rfl⟩
  refine chain_test (i := 33) (s1 := 39) (s2 := 40) (s3 := 41) (s4 := 42) (s5 := 43) (s6 := 44) (d' := 45) (e' := decide (a.host = b.host)) (R := (fun w' => ∃ q, w' = (((w.alloc (.cells CA 30)).alloc (.cells CB 30)).drewN q))) hinv rfl rfl rfl rfl rfl rfl rfl rfl rfl rfl rfl rfl rfl rfl rfl rfl rfl (.inl rfl) ?_ ⟨q5, rfl⟩ ?_
  ·
    have ca17 : CA[17]? = some (Value.int .u8 (a.host.b0.toNat : Int)) := by rw [HA.out]; rfl
    have cb17 : CB[17]? = some (Value.int .u8 (b.host.b0.toNat : Int)) := by rw [HB.out]; rfl
    have ca18 : CA[18]? = some (Value.int .u8 (a.host.b1.toNat : Int)) := by rw [HA.out]; rfl
    have cb18 : CB[18]? = some (Value.int .u8 (b.host.b1.toNat : Int)) := by rw [HB.out]; rfl
    have ca19 : CA[19]? = some (Value.int .u8 (a.host.b2.toNat : Int)) := by rw [HA.out]; rfl
    have cb19 : CB[19]? = some (Value.int .u8 (b.host.b2.toNat : Int)) := by rw [HB.out]; rfl
    have ca20 : CA[20]? = some (Value.int .u8 (a.host.b3.toNat : Int)) := by rw [HA.out]; rfl
    have cb20 : CB[20]? = some (Value.int .u8 (b.host.b3.toNat : Int)) := by rw [HB.out]; rfl
    have ca21 : CA[21]? = some (Value.int .u8 (a.host.b4.toNat : Int)) := by rw [HA.out]; rfl
    have cb21 : CB[21]? = some (Value.int .u8 (b.host.b4.toNat : Int)) := by rw [HB.out]; rfl
    have ca22 : CA[22]? = some (Value.int .u8 (a.host.b5.toNat : Int)) := by rw [HA.out]; rfl
    have cb22 : CB[22]? = some (Value.int .u8 (b.host.b5.toNat : Int)) := by rw [HB.out]; rfl
    refine ⟨.pointer (some ⟨w.heap.size, 17, none⟩), (.agg #[.int .u8 (a.host.b0.toNat : Int), .int .u8 (a.host.b1.toNat : Int), .int .u8 (a.host.b2.toNat : Int), .int .u8 (a.host.b3.toNat : Int), .int .u8 (a.host.b4.toNat : Int), .int .u8 (a.host.b5.toNat : Int)]), .pointer (some ⟨w.heap.size + 1, 17, none⟩), (.agg #[.int .u8 (b.host.b0.toNat : Int), .int .u8 (b.host.b1.toNat : Int), .int .u8 (b.host.b2.toNat : Int), .int .u8 (b.host.b3.toNat : Int), .int .u8 (b.host.b4.toNat : Int), .int .u8 (b.host.b5.toNat : Int)]), ?_, ?_, ?_, ?_, .inl ⟨?_, q5, rfl⟩⟩
    · intro ρ h; simp only [execOp, h]; go_simp
    · intro ρ h; simp only [execOp, h]; go_simp
    · intro ρ h; simp only [execOp, h]; go_simp
    · intro ρ h; simp only [execOp, h]; go_simp
    · intro ρ h1 h2; simp only [execOp, h1, h2]; go_simp
  rintro a5 _ hinv ⟨q6, rfl⟩
  refine chain_test (i := 40) (s1 := 46) (s2 := 47) (s3 := 48) (s4 := 49) (s5 := 50) (s6 := 51) (d' := 52) (e' := decide (a.pool = b.pool)) (R := (fun w' => ∃ q, w' = (((w.alloc (.cells CA 30)).alloc (.cells CB 30)).drewN q))) hinv rfl rfl rfl rfl rfl rfl rfl rfl rfl rfl rfl rfl rfl rfl rfl rfl rfl (.inl rfl) ?_ ⟨q6, rfl⟩ ?_
  ·
    have ca23 : CA[23]? = some (Value.slice P a.pool.length p) := by rw [HA.out]; rfl
    have cb23 : CB[23]? = some (Value.slice P' b.pool.length p') := by rw [HB.out]; rfl
    refine ⟨.pointer (some ⟨w.heap.size, 23, none⟩), (.slice P a.pool.length p), .pointer (some ⟨w.heap.size + 1, 23, none⟩), (.slice P' b.pool.length p'), ?_, ?_, ?_, ?_, .inr ⟨33, ?_, (nums_ok P P' p p' _ _ _ (HH.out.1 q6) (HH.out.2.2.2.1 q6) la).mono (fun e w' ⟨h1, n1, h2⟩ => ⟨h1, q6 + n1, by rw [h2]; exact World.drewN_drewN ..⟩)⟩⟩
    · intro ρ h; simp only [execOp, h]; go_simp
    · intro ρ h; simp only [execOp, h]; go_simp
    · intro ρ h; simp only [execOp, h]; go_simp
    · intro ρ h; simp only [execOp, h]; go_simp
    · intro ρ hf h1 h2; simp only [execOp, resolve, hf]; go_simp
  rintro a6 _ hinv ⟨q7, rfl⟩
  refine chain_test (i := 47) (s1 := 53) (s2 := 54) (s3 := 55) (s4 := 56) (s5 := 57) (s6 := 58) (d' := 59) (e' := ((a.lo : Int) == b.lo)) (R := (fun w' => ∃ q, w' = (((w.alloc (.cells CA 30)).alloc (.cells CB 30)).drewN q))) hinv rfl rfl rfl rfl rfl rfl rfl rfl rfl rfl rfl rfl rfl rfl rfl rfl rfl (.inl rfl) ?_ ⟨q7, rfl⟩ ?_
  ·
    have ca24 : CA[24]? = some (Value.int .u16 (a.lo : Int)) := by rw [HA.out]; rfl
    have cb24 : CB[24]? = some (Value.int .u16 (b.lo : Int)) := by rw [HB.out]; rfl
    refine ⟨.pointer (some ⟨w.heap.size, 24, none⟩), (.int .u16 (a.lo : Int)), .pointer (some ⟨w.heap.size + 1, 24, none⟩), (.int .u16 (b.lo : Int)), ?_, ?_, ?_, ?_, .inl ⟨?_, q7, rfl⟩⟩
    · intro ρ h; simp only [execOp, h]; go_simp
    · intro ρ h; simp only [execOp, h]; go_simp
    · intro ρ h; simp only [execOp, h]; go_simp
    · intro ρ h; simp only [execOp, h]; go_simp
    · intro ρ h1 h2; simp only [execOp, h1, h2]; go_simp
  rintro a7 _ hinv ⟨q8, rfl⟩
  refine chain_test (i := 54) (s1 := 60) (s2 := 61) (s3 := 62) (s4 := 63) (s5 := 64) (s6 := 65) (d' := 66) (e' := ((a.hi : Int) == b.hi)) (R := (fun w' => ∃ q, w' = (((w.alloc (.cells CA 30)).alloc (.cells CB 30)).drewN q))) hinv rfl rfl rfl rfl rfl rfl rfl rfl rfl rfl rfl rfl rfl rfl rfl rfl rfl (.inl rfl) ?_ ⟨q8, rfl⟩ ?_
  ·
    have ca25 : CA[25]? = some (Value.int .u16 (a.hi : Int)) := by rw [HA.out]; rfl
    have cb25 : CB[25]? = some (Value.int .u16 (b.hi : Int)) := by rw [HB.out]; rfl
    refine ⟨.pointer (some ⟨w.heap.size, 25, none⟩), (.int .u16 (a.hi : Int)), .pointer (some ⟨w.heap.size + 1, 25, none⟩), (.int .u16 (b.hi : Int)), ?_, ?_, ?_, ?_, .inl ⟨?_, q8, rfl⟩⟩
    · intro ρ h; simp only [execOp, h]; go_simp
    · intro ρ h; simp only [execOp, h]; go_simp
    · intro ρ h; simp only [execOp, h]; go_simp
    · intro ρ h; simp only [execOp, h]; go_simp
    · intro ρ h1 h2; simp only [execOp, h1, h2]; go_simp
  rintro a8 _ hinv ⟨q9, rfl⟩
  refine chain_test (i := 61) (s1 := 67) (s2 := 68) (s3 := 69) (s4 := 70) (s5 := 71) (s6 := 72) (d' := 73) (e' := (a.filter == b.filter)) (R := (fun w' => ∃ q, w' = (((w.alloc (.cells CA 30)).alloc (.cells CB 30)).drewN q))) hinv rfl rfl rfl rfl rfl rfl rfl rfl rfl rfl rfl rfl rfl rfl rfl rfl rfl (.inl rfl) ?_ ⟨q9, rfl⟩ ?_
  ·
    have ca26 : CA[26]? = some (Value.int .i64 a.filter) := by rw [HA.out]; rfl
    have cb26 : CB[26]? = some (Value.int .i64 b.filter) := by rw [HB.out]; rfl
    refine ⟨.pointer (some ⟨w.heap.size, 26, none⟩), (.int .i64 a.filter), .pointer (some ⟨w.heap.size + 1, 26, none⟩), (.int .i64 b.filter), ?_, ?_, ?_, ?_, .inl ⟨?_, q9, rfl⟩⟩
    · intro ρ h; simp only [execOp, h]; go_simp
    · intro ρ h; simp only [execOp, h]; go_simp
    · intro ρ h; simp only [execOp, h]; go_simp
    · intro ρ h; simp only [execOp, h]; go_simp
    · intro ρ h1 h2; simp only [execOp, h1, h2]; go_simp
  rintro a9 _ hinv ⟨q10, rfl⟩
  refine chain_test (i := 68) (s1 := 74) (s2 := 75) (s3 := 76) (s4 := 77) (s5 := 78) (s6 := 79) (d' := 80) (e' := decide (a.statics = b.statics)) (R := (fun w' => ∃ q, w' = (((w.alloc (.cells CA 30)).alloc (.cells CB 30)).drewN q))) hinv rfl rfl rfl rfl rfl rfl rfl rfl rfl rfl rfl rfl rfl rfl rfl rfl rfl (.inl rfl) ?_ ⟨q10, rfl⟩ ?_
  ·
    have ca27 : CA[27]? = some (Value.slice Q a.statics.length q) := by rw [HA.out]; rfl
    have cb27 : CB[27]? = some (Value.slice Q' b.statics.length q') := by rw [HB.out]; rfl
    refine ⟨.pointer (some ⟨w.heap.size, 27, none⟩), (.slice Q a.statics.length q), .pointer (some ⟨w.heap.size + 1, 27, none⟩), (.slice Q' b.statics.length q'), ?_, ?_, ?_, ?_, .inr ⟨34, ?_, (pairs_ok Q Q' q q' _ _ _ (HH.out.2.1 q10) (HH.out.2.2.2.2.1 q10) ls).mono (fun e w' ⟨h1, n1, h2⟩ => ⟨h1, q10 + n1, by rw [h2]; exact World.drewN_drewN ..⟩)⟩⟩
    · intro ρ h; simp only [execOp, h]; go_simp
    · intro ρ h; simp only [execOp, h]; go_simp
    · intro ρ h; simp only [execOp, h]; go_simp
    · intro ρ h; simp only [execOp, h]; go_simp
    · intro ρ hf h1 h2; simp only [execOp, resolve, hf]; go_simp
  rintro a10 _ hinv ⟨q11, rfl⟩
  refine chain_test (i := 75) (s1 := 81) (s2 := 82) (s3 := 83) (s4 := 84) (s5 := 85) (s6 := 86) (d' := 87) (e' := decide (a.twices = b.twices)) (R := (fun w' => ∃ q, w' = (((w.alloc (.cells CA 30)).alloc (.cells CB 30)).drewN q))) hinv rfl rfl rfl rfl rfl rfl rfl rfl rfl rfl rfl rfl rfl rfl rfl rfl rfl (.inl rfl) ?_ ⟨q11, rfl⟩ ?_
  ·
    have ca28 : CA[28]? = some (Value.slice R a.twices.length r) := by rw [HA.out]; rfl
    have cb28 : CB[28]? = some (Value.slice R' b.twices.length r') := by rw [HB.out]; rfl
    refine ⟨.pointer (some ⟨w.heap.size, 28, none⟩), (.slice R a.twices.length r), .pointer (some ⟨w.heap.size + 1, 28, none⟩), (.slice R' b.twices.length r'), ?_, ?_, ?_, ?_, .inr ⟨34, ?_, (pairs_ok R R' r r' _ _ _ (HH.out.2.2.1 q11) (HH.out.2.2.2.2.2.1 q11) lt).mono (fun e w' ⟨h1, n1, h2⟩ => ⟨h1, q11 + n1, by rw [h2]; exact World.drewN_drewN ..⟩)⟩⟩
    · intro ρ h; simp only [execOp, h]; go_simp
    · intro ρ h; simp only [execOp, h]; go_simp
    · intro ρ h; simp only [execOp, h]; go_simp
    · intro ρ h; simp only [execOp, h]; go_simp
    · intro ρ hf h1 h2; simp only [execOp, resolve, hf]; go_simp
  rintro a11 _ hinv ⟨q12, rfl⟩
  refine chain_test (i := 82) (s1 := 88) (s2 := 89) (s3 := 90) (s4 := 91) (s5 := 92) (s6 := 93) (d' := 94) (e' := (a.sess == b.sess)) (R := (fun w' => ∃ q, w' = (((w.alloc (.cells CA 30)).alloc (.cells CB 30)).drewN q))) hinv rfl rfl rfl rfl rfl rfl rfl rfl rfl rfl rfl rfl rfl rfl rfl rfl rfl (.inl rfl) ?_ ⟨q12, rfl⟩ ?_
  ·
    have ca29 : CA[29]? = some (Value.int .i64 a.sess) := by rw [HA.out]; rfl
    have cb29 : CB[29]? = some (Value.int .i64 b.sess) := by rw [HB.out]; rfl
    refine ⟨.pointer (some ⟨w.heap.size, 29, none⟩), (.int .i64 a.sess), .pointer (some ⟨w.heap.size + 1, 29, none⟩), (.int .i64 b.sess), ?_, ?_, ?_, ?_, .inl ⟨?_, q12, rfl⟩⟩
    · intro ρ h; simp only [execOp, h]; go_simp
    · intro ρ h; simp only [execOp, h]; go_simp
    · intro ρ h; simp only [execOp, h]; go_simp
    · intro ρ h; simp only [execOp, h]; go_simp
    · intro ρ h1 h2; simp only [execOp, h1, h2]; go_simp
  rintro a12 _ hinv ⟨q13, rfl⟩
  refine chain_test (i := 89) (s1 := 95) (s2 := 96) (s3 := 97) (s4 := 98) (s5 := 99) (s6 := 100) (d' := 101) (e' := (a.queue == b.queue)) (R := (fun w' => ∃ q, w' = (((w.alloc (.cells CA 30)).alloc (.cells CB 30)).drewN q))) hinv rfl rfl rfl rfl rfl rfl rfl rfl rfl rfl rfl rfl rfl rfl rfl rfl rfl (.inl rfl) ?_ ⟨q13, rfl⟩ ?_
  ·
    have ca30 : CA[30]? = some (Value.int .i64 a.queue) := by rw [HA.out]; rfl
    have cb30 : CB[30]? = some (Value.int .i64 b.queue) := by rw [HB.out]; rfl
    refine ⟨.pointer (some ⟨w.heap.size, 30, none⟩), (.int .i64 a.queue), .pointer (some ⟨w.heap.size + 1, 30, none⟩), (.int .i64 b.queue), ?_, ?_, ?_, ?_, .inl ⟨?_, q13, rfl⟩⟩
    · intro ρ h; simp only [execOp, h]; go_simp
    · intro ρ h; simp only [execOp, h]; go_simp
    · intro ρ h; simp only [execOp, h]; go_simp
    · intro ρ h; simp only [execOp, h]; go_simp
    · intro ρ h1 h2; simp only [execOp, h1, h2]; go_simp
  rintro a13 _ hinv ⟨q14, rfl⟩
  refine chain_test (i := 96) (s1 := 102) (s2 := 103) (s3 := 104) (s4 := 105) (s5 := 106) (s6 := 107) (d' := 108) (e' := ((a.rate : Int) == b.rate)) (R := (fun w' => ∃ q, w' = (((w.alloc (.cells CA 30)).alloc (.cells CB 30)).drewN q))) hinv rfl rfl rfl rfl rfl rfl rfl rfl rfl rfl rfl rfl rfl rfl rfl rfl rfl (.inl rfl) ?_ ⟨q14, rfl⟩ ?_
  ·
    have ca31 : CA[31]? = some (Value.int .u32 (a.rate : Int)) := by rw [HA.out]; rfl
    have cb31 : CB[31]? = some (Value.int .u32 (b.rate : Int)) := by rw [HB.out]; rfl
    refine ⟨.pointer (some ⟨w.heap.size, 31, none⟩), (.int .u32 (a.rate : Int)), .pointer (some ⟨w.heap.size + 1, 31, none⟩), (.int .u32 (b.rate : Int)), ?_, ?_, ?_, ?_, .inl ⟨?_, q14, rfl⟩⟩
    · intro ρ h; simp only [execOp, h]; go_simp
    · intro ρ h; simp only [execOp, h]; go_simp
    · intro ρ h; simp only [execOp, h]; go_simp
    · intro ρ h; simp only [execOp, h]; go_simp
    · intro ρ h1 h2; simp only [execOp, h1, h2]; go_simp
  rintro a14 _ hinv ⟨q15, rfl⟩
  refine chain_test (i := 103) (s1 := 109) (s2 := 110) (s3 := 111) (s4 := 112) (s5 := 113) (s6 := 114) (d' := 4) (e' := ((a.burst : Int) == b.burst)) (R := (fun w' => ∃ q, w' = (((w.alloc (.cells CA 30)).alloc (.cells CB 30)).drewN q))) hinv rfl rfl rfl rfl rfl rfl rfl rfl rfl rfl rfl rfl rfl rfl rfl rfl rfl (.inr rfl) ?_ ⟨q15, rfl⟩ ?_
  ·
    have ca32 : CA[32]? = some (Value.int .u32 (a.burst : Int)) := by rw [HA.out]; rfl
    have cb32 : CB[32]? = some (Value.int .u32 (b.burst : Int)) := by rw [HB.out]; rfl
    refine ⟨.pointer (some ⟨w.heap.size, 32, none⟩), (.int .u32 (a.burst : Int)), .pointer (some ⟨w.heap.size + 1, 32, none⟩), (.int .u32 (b.burst : Int)), ?_, ?_, ?_, ?_, .inl ⟨?_, q15, rfl⟩⟩
    · intro ρ h; simp only [execOp, h]; go_simp
    · intro ρ h; simp only [execOp, h]; go_simp
    · intro ρ h; simp only [execOp, h]; go_simp
    · intro ρ h; simp only [execOp, h]; go_simp
    · intro ρ h1 h2; simp only [execOp, h1, h2]; go_simp
  rintro ⟨tm, df⟩ _ hinv ⟨q16, rfl⟩
  refine wpList_nil ?_
  have hres := hinv.tb
  obtain rfl : df = [] := hinv.defers
  clear hinv
  go_wp2
  go_ret
  refine ⟨?_, HM.out _⟩
  have : tm.getD 4 undef = .bool (decide (a = b)) := by
    rw [Array.getD_eq_getD_getElem?, hres, ← ten_beq a b]
    rfl
  rw [← this]

end Go.Proofs.Ytcnemhhbihhcfaa
