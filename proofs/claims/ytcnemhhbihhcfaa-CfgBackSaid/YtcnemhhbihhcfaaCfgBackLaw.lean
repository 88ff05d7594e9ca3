/-
  The law CfgBack returns true for every input, and its input reads as it did.
  Conditions: none.
-/
import Derived.Test.YtcnemhhbihhcfaaLawB
import Derived.Test.YtcnemhhbihhcfaaPost
namespace Go.Proofs.Ytcnemhhbihhcfaa.cfgBack
open Go.ChangeShapes Go.WideShapes Go.ChangeAt Go.RowKit
set_option linter.unusedVariables false

theorem own : ownKnob Try.prog.godebug = none := by kernel_rfl
def wz0 : Value := .agg #[.int .u32 0, .int .u8 0, .int .u8 0, .int .u8 0, .int .u8 0, .int .u8 0, .int .u8 0, .int .u8 0, .int .u8 0, .int .u8 0, .int .u8 0, .int .u8 0, .int .u8 0, .int .u8 0, .int .u8 0, .int .u8 0, .int .u8 0, .int .u8 0, .int .u8 0, .int .u8 0, .int .u8 0, .int .u8 0, .int .u8 0, .int .u8 0, .int .u8 0, .int .u8 0, .int .u8 0, .int .u32 0, .slice none 0 0]
def wz1 : Value := .agg #[.bool false, .string ⟨#[]⟩, .string ⟨#[]⟩, .int .u32 0, .int .u8 0, .int .u8 0, .int .u8 0, .int .u8 0, .int .u8 0, .int .u8 0, .int .u8 0, .int .u8 0, .int .u32 0, .int .u8 0, .int .u8 0, .int .u8 0, .int .u8 0, .int .u8 0, .int .u8 0, .int .u8 0, .int .u8 0, .int .u8 0, .int .u8 0, .int .u8 0, .int .u8 0, .slice none 0 0, .int .u16 0, .int .u16 0, .int .i64 0, .slice none 0 0, .slice none 0 0, .int .i64 0, .int .i64 0, .int .u32 0, .int .u32 0]
def wz2 : Value := .int .u8 0

set_option maxRecDepth 100000 in
theorem lifted (os : Os) (started : os.Started) (H : Type) (enc : TypeId × Value → H) :
    ReturnsInHanded {} Try.checked os 8 .any (Rows.cfgBackSpec.pre6 enc Try.prog Try.f8 Rows.cfgBackRow.domain false) (Rows.cfgBackSpec.post enc Try.prog Try.f8 false true false false) := by
  refine returnsInHanded_of_change (C := Try.checked) own started (by kernel_rfl) Try.func8
    (ChangeSpec.witness6 (enc := enc) (C := Try.checked) false ⟨#[], #[wz0, wz1, wz2], []⟩ 8 (by kernel_rfl) (by kernel_rfl) (by kernel_rfl) (by kernel_rfl)) ?_
  intro W base args ds gs before hval0 hW hcnd _
  have hval : ∀ (j : Nat) t v, Try.f8.params[j]? = some t → args[j]? = some v → Value.okWide Try.prog W .any base t v := hval0
  have hW' := hW
  obtain ⟨pp, pq, hA0, hV, rfl, hfz, hnd⟩ := hW
  have hA : DataW.TrodAll enc Try.prog W 0 (fun _ => true) true Try.f8.params.toList args.toList ds pp := hA0
  rw [Try.params8] at hA hval
  obtain ⟨v0, vs0, d0, ds0, p0, q0, hargs, rfl, rfl, h0, r0⟩ := trodAll_cons hA
  obtain ⟨v1, vs1, d1, ds1, p1, q1, rfl, rfl, rfl, h1, r1⟩ := trodAll_cons r0
  obtain ⟨v2, vs2, d2, ds2, p2, q2, rfl, rfl, rfl, h2, r2⟩ := trodAll_cons r1
  obtain ⟨rfl, rfl, rfl⟩ := trodAll_nil r2
  obtain rfl : args = #[v0, v1, v2] := by cases args; simp_all
  obtain ⟨c0, rfl, _⟩ := okWide_struct Try.underlying48 (hval 0 48 v0 rfl rfl)
  obtain ⟨c1, rfl, _⟩ := okWide_struct Try.underlying38 (hval 1 38 v1 rfl rfl)
  obtain ⟨zz2, rfl⟩ := okWide_int Try.underlying5 (hval 2 5 v2 rfl rfl)
  obtain ⟨f0, hf0⟩ := h0
  obtain ⟨f1, hf1⟩ := h1
  obtain ⟨f2, hf2⟩ := h2
  obtain ⟨cc0, A0, k0, l0, e0, ip0, dr0, n0, rr0, o0⟩ := open_con hf0
  obtain ⟨put1, name1, x1, e1, o1⟩ := open_chg hf1
  obtain ⟨b2, e2⟩ := open_u8 hf2
  obtain rfl : c0 = cc0.cells (.slice A0 l0.length k0) := e0
  obtain rfl : c1 = cChg put1 name1 x1 := e1
  cases e2
  clear hA0 hval0
  have hwalk := cfgBack_walk cc0 A0 k0 l0 ip0 dr0 n0 rr0 o0 put1 name1 x1 o1 b2
  refine hwalk.mono fun e W' ⟨he, hm⟩ => ?_
  subst he
  exact ⟨_, rfl, law_post hW' rfl (by rw [Try.params8]; decide) rfl rfl hm⟩

theorem over : Rows.cfgBackRow.holds Try.pinned (OpenSpec.ofChange Rows.cfgBackSpec) :=
  OpenClaim.holds_of_wide 8 Try.f8 rfl rfl rfl rfl rfl rfl rfl ⟨rfl, rfl, rfl, rfl, rfl⟩ rfl rfl rfl rfl rfl (by kernel_rfl) Try.func8 (by kernel_rfl)
    (of_decide_eq_true (by kernel_rfl)) (by unfold Func.isWrapper; first | (rw [if_pos (by decide +kernel)]; kernel_rfl) | (rw [if_neg (by decide +kernel)]; exact ⟨rfl, rfl⟩))
    (fun os started H enc _ => lifted os started H enc)

/-- The statement. -/
theorem proved : Rows.CfgBackSaid :=
  over
#print axioms proved
end Go.Proofs.Ytcnemhhbihhcfaa.cfgBack
