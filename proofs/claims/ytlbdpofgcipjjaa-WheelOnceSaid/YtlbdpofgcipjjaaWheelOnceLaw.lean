/-
  The law WheelOnce returns true for every input, and its input reads as it did.
  Conditions: none.
-/
import Derived.Test.YtlbdpofgcipjjaaOpenG
import Derived.Test.YtlbdpofgcipjjaaPost
import Derived.Test.YtlbdpofgcipjjaaWhP
namespace Go.Proofs.Ytlbdpofgcipjjaa.wheelOnce
open Go.ChangeShapes Go.WideShapes Go.ChangeAt Go.RowKit Go.Deep
set_option linter.unusedVariables false

theorem own : ownKnob Try.prog.godebug = none := by kernel_rfl
def wz0 : Value := .int .u32 0
def wz1 : Value := .slice none 0 0

set_option maxRecDepth 100000 in
theorem lifted (os : Os) (started : os.Started) (H : Type) (enc : TypeId × Value → H) :
    ReturnsInHanded {} Try.checked os 4 .any (Rows.wheelOnceSpec.pre6 enc Try.prog Try.f4 Rows.wheelOnceRow.domain false) (Rows.wheelOnceSpec.post enc Try.prog Try.f4 false true false false) := by
  refine returnsInHanded_of_change (C := Try.checked) own started (by kernel_rfl) Try.func4
    (ChangeSpec.witness6 (enc := enc) (C := Try.checked) false ⟨#[], #[wz0, wz1], []⟩ 8 (by kernel_rfl) (by kernel_rfl) (by kernel_rfl) (by kernel_rfl)) ?_
  intro W base args ds gs before hval0 hW hcnd _
  have hval : ∀ (j : Nat) t v, Try.f4.params[j]? = some t → args[j]? = some v → Value.okWide Try.prog W .any base t v := hval0
  have hW' := hW
  obtain ⟨pp, pq, hA0, hV, rfl, hfz, hnd⟩ := hW
  have hA : DataW.TrodAll enc Try.prog W 0 (fun _ => true) true Try.f4.params.toList args.toList ds pp := hA0
  rw [Try.params4] at hA hval
  obtain ⟨v0, vs0, d0, ds0, p0, q0, hargs, rfl, rfl, h0, r0⟩ := trodAll_cons hA
  obtain ⟨v1, vs1, d1, ds1, p1, q1, rfl, rfl, rfl, h1, r1⟩ := trodAll_cons r0
  obtain ⟨rfl, rfl, rfl⟩ := trodAll_nil r1
  obtain rfl : args = #[v0, v1] := by cases args; simp_all
  obtain ⟨y0, rfl⟩ := okWide_int Try.underlying22 (hval 0 22 v0 rfl rfl)
  obtain ⟨A1, k1, c1, rfl⟩ := okWide_slice Try.underlying43 (hval 1 43 v1 rfl rfl)
  obtain ⟨f0, hf0⟩ := h0
  obtain ⟨f1, hf1⟩ := h1
  obtain ⟨z0, e0, _, w0⟩ := DataW.trod_int Try.underlying22 hf0
  cases e0
  obtain ⟨n0, rfl, h0⟩ := nat_of_wf (by rfl) w0
  obtain ⟨zs1, hz1, hl1, hr1, hw1⟩ := open_row_ints Try.underlying43 Try.underlying44 (by kernel_rfl) hf1
  clear hA0 hval0
  have hwalk := once_walk W n0 A1 c1 k1 zs1 hz1 hl1 hr1 hw1
  refine hwalk.mono fun e W' ⟨he, hm⟩ => ?_
  subst he
  exact ⟨_, rfl, law_post hW' rfl (by rw [Try.params4]; decide) rfl rfl hm⟩

theorem over : Rows.wheelOnceRow.holds Try.pinned (OpenSpec.ofChange Rows.wheelOnceSpec) :=
  OpenClaim.holds_of_wide 4 Try.f4 rfl rfl rfl rfl rfl rfl rfl ⟨rfl, rfl, rfl, rfl, rfl⟩ rfl rfl rfl rfl rfl (by kernel_rfl) Try.func4 (by kernel_rfl)
    (of_decide_eq_true (by kernel_rfl)) (by unfold Func.isWrapper; first | (rw [if_pos (by decide +kernel)]; kernel_rfl) | (rw [if_neg (by decide +kernel)]; exact ⟨rfl, rfl⟩))
    (fun os started H enc _ => lifted os started H enc)

/-- The statement. -/
theorem proved : Rows.WheelOnceSaid :=
  over
#print axioms proved
end Go.Proofs.Ytlbdpofgcipjjaa.wheelOnce
