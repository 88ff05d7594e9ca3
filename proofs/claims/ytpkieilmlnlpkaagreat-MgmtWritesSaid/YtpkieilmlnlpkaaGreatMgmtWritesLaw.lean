/-
  The law MgmtWrites returns true for every input, and its input reads as it did.
  Conditions: none.
-/
import Derived.Test.YtpkieilmlnlpkaaGreatW10
namespace Go.Proofs.YtpkieilmlnlpkaaGreat.mgmtWrites
open Go.Proofs.YtpkieilmlnlpkaaGreat
attribute [local go_sem] stPair gtPair gtK8 gtM6 run_store_func run_store_nilFunc
attribute [local go_sem high] neqPair eqK8 eqM6
attribute [local go_sem ↓] load_fold store_fold alloc_fold slice_op_fold con_load_fold chg_load_fold ten_zero_fold con_alloc_fold con_store_fold con_zero_fold chg_alloc_fold chg_store_fold chg_zero_fold chg_put_fold macLoad_fold macStore_fold keyLoad_fold keyStore_fold chg_make_fold chg_slice_fold askLoad_fold askStore_fold askAlloc_fold askBox_fold askZero_fold reqLoad_fold reqStore_fold reqAlloc_fold reqBox_fold reqZero_fold askPut_fold reqPut_fold askPut6_fold reqPut6_fold
open Go.ChangeShapes Go.WideShapes Go.ChangeAt Go.RowKit
set_option linter.unusedVariables false

theorem own : ownKnob Tryz.prog.godebug = none := by kernel_rfl
def wz0 : Value := .agg #[.int .u8 0, .int .u8 0, .int .u8 0, .int .u8 0, .int .u8 0, .int .u8 0, .int .u8 0, .int .u8 0]
def wz1 : Value := .int .i64 0
def wz2 : Value := .int .u64 0
def wz3 : Value := .agg #[.bool false, .string ⟨#[]⟩, .string ⟨#[]⟩, .int .u32 0, .int .u8 0, .int .u8 0, .int .u8 0, .int .u8 0, .int .u8 0, .int .u8 0, .int .u8 0, .int .u8 0, .int .u32 0, .int .u8 0, .int .u8 0, .int .u8 0, .int .u8 0, .int .u8 0, .int .u8 0, .int .u8 0, .int .u8 0, .int .u8 0, .int .u8 0, .int .u8 0, .int .u8 0, .slice none 0 0, .int .u16 0, .int .u16 0, .int .i64 0, .slice none 0 0, .slice none 0 0, .int .i64 0, .int .i64 0, .int .u32 0, .int .u32 0]
def wz4 : Value := .agg #[.int .u32 0, .int .u8 0, .int .u8 0, .int .u8 0, .int .u8 0, .int .u8 0, .int .u8 0, .int .u8 0, .int .u8 0, .int .u8 0, .int .u8 0, .int .u8 0, .int .u8 0, .int .u8 0, .int .u8 0, .int .u8 0, .int .u8 0, .int .u8 0, .int .u8 0, .int .u8 0, .int .u8 0, .int .u8 0, .int .u8 0, .int .u8 0, .int .u8 0, .int .u8 0, .int .u8 0, .int .u32 0, .slice none 0 0]
def wz5 : Value := .string ⟨#[]⟩

set_option maxRecDepth 100000 in
theorem lifted (os : Os) (started : os.Started) (H : Type) (enc : TypeId × Value → H) :
    ReturnsInHanded {} Tryz.checked os 3 .any (Rows.mgmtWritesSpec.pre6 enc Tryz.prog Tryz.f3 Rows.mgmtWritesRow.domain false) (Rows.mgmtWritesSpec.post enc Tryz.prog Tryz.f3 false true false false) := by
  refine returnsInHanded_of_change (C := Tryz.checked) own started (by kernel_rfl) Tryz.func3
    (ChangeSpec.witness6 (enc := enc) (C := Tryz.checked) false ⟨#[], #[wz0, wz1, wz2, wz3, wz4, wz5], []⟩ 8 (by kernel_rfl) (by kernel_rfl) (by kernel_rfl) (by kernel_rfl)) ?_
  intro W base args ds gs before hval0 hW hcnd _
  have hval : ∀ (j : Nat) t v, Tryz.f3.params[j]? = some t → args[j]? = some v → Value.okWide Tryz.prog W .any base t v := hval0
  have hW' := hW
  obtain ⟨pp, pq, hA0, hV, rfl, hfz, hnd⟩ := hW
  have hA : DataW.TrodAll enc Tryz.prog W 0 (fun _ => true) true Tryz.f3.params.toList args.toList ds pp := hA0
  rw [Tryz.params3] at hA hval
  obtain ⟨v0, vs0, d0, ds0, p0, q0, hargs, rfl, rfl, h0, r0⟩ := trodAll_cons hA
  obtain ⟨v1, vs1, d1, ds1, p1, q1, rfl, rfl, rfl, h1, r1⟩ := trodAll_cons r0
  obtain ⟨v2, vs2, d2, ds2, p2, q2, rfl, rfl, rfl, h2, r2⟩ := trodAll_cons r1
  obtain ⟨v3, vs3, d3, ds3, p3, q3, rfl, rfl, rfl, h3, r3⟩ := trodAll_cons r2
  obtain ⟨v4, vs4, d4, ds4, p4, q4, rfl, rfl, rfl, h4, r4⟩ := trodAll_cons r3
  obtain ⟨v5, vs5, d5, ds5, p5, q5, rfl, rfl, rfl, h5, r5⟩ := trodAll_cons r4
  obtain ⟨rfl, rfl, rfl⟩ := trodAll_nil r5
  obtain rfl : args = #[v0, v1, v2, v3, v4, v5] := by cases args; simp_all
  obtain ⟨c0, rfl, s0⟩ := okWide_arr Tryz.underlying22 (hval 0 22 v0 rfl rfl)
  obtain ⟨zz1, rfl⟩ := okWide_int Tryz.underlying3 (hval 1 3 v1 rfl rfl)
  obtain ⟨zz2, rfl⟩ := okWide_int Tryz.underlying23 (hval 2 23 v2 rfl rfl)
  obtain ⟨c3, rfl, _⟩ := okWide_struct Tryz.underlying33 (hval 3 33 v3 rfl rfl)
  obtain ⟨c4, rfl, _⟩ := okWide_struct Tryz.underlying36 (hval 4 36 v4 rfl rfl)
  obtain ⟨s5, rfl⟩ := okWide_string Tryz.underlying9 (hval 5 9 v5 rfl rfl)
  obtain ⟨f0, hf0⟩ := h0
  obtain ⟨f1, hf1⟩ := h1
  obtain ⟨f2, hf2⟩ := h2
  obtain ⟨f3, hf3⟩ := h3
  obtain ⟨f4, hf4⟩ := h4
  obtain ⟨f5, hf5⟩ := h5
  obtain ⟨k80, e0⟩ := open_k8 s0 hf0
  obtain ⟨z1, e1, b1⟩ := open_i64 hf1
  obtain ⟨z2, e2, b2⟩ := open_u64 Tryz.underlying23 hf2
  obtain ⟨put3, name3, x3, e3, o3⟩ := open_chg hf3
  obtain ⟨cc4, A4, k4, l4, e4, ip4, dr4, n4, rr4, o4⟩ := open_con hf4
  subst e0
  cases e1
  cases e2
  obtain rfl : c3 = cChg put3 name3 x3 := e3
  obtain rfl : c4 = cc4.cells (.slice A4 l4.length k4) := e4
  clear hA0 hval0
  have hwalk := mgmtWrites_walk (w := W) k80 zz1 z2 put3 name3 x3 o3 cc4 A4 k4 l4 ip4 dr4 n4 rr4 o4 s5.data.toList
  refine hwalk.mono fun e W' ⟨he, hm⟩ => ?_
  subst he
  exact ⟨_, rfl, law_post hW' rfl (by rw [Tryz.params3]; decide) rfl rfl hm⟩

theorem over : Rows.mgmtWritesRow.holds Tryz.pinned (OpenSpec.ofChange Rows.mgmtWritesSpec) :=
  OpenClaim.holds_of_wide 3 Tryz.f3 rfl rfl rfl rfl rfl rfl rfl ⟨rfl, rfl, rfl, rfl, rfl⟩ rfl rfl rfl rfl rfl (by kernel_rfl) Tryz.func3 (by kernel_rfl)
    (of_decide_eq_true (by kernel_rfl)) (by unfold Func.isWrapper; first | (rw [if_pos (by decide +kernel)]; kernel_rfl) | (rw [if_neg (by decide +kernel)]; exact ⟨rfl, rfl⟩))
    (fun os started H enc _ => lifted os started H enc)

/-- The statement. -/
theorem proved : Rows.MgmtWritesSaid :=
  over
#print axioms proved
end Go.Proofs.YtpkieilmlnlpkaaGreat.mgmtWrites
