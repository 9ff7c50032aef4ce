/- Part of a program logic over data: rules of the walk, each proved. -/
import Derived.Test.YtfpahhadchfmcaaOrderRow
set_option linter.unusedSectionVars false
set_option linter.unusedVariables false
set_option linter.unusedSimpArgs false
set_option maxRecDepth 100000
namespace Go.Proofs.Ytfpahhadchfmcaa.W
open Go Go.Proofs Go.Proofs.Ytfpahhadchfmcaa.AWP Go.Proofs.Ytfpahhadchfmcaa
open Go.ChangeShapes Go.WideShapes Go.ChangeAt Go.RowKit

theorem three_lifted (os : Os) (started : os.Started) (H : Type) (enc : TypeId × Value → H) :
    ReturnsInHanded {} Try.checked os 4 .any (Rows.orderThreeSpec.pre6 enc Try.prog Try.f4 Rows.orderThreeRow.domain false) (Rows.orderThreeSpec.post enc Try.prog Try.f4 false true false false) := by
  refine returnsInHanded_of_change (C := Try.checked) own started (by kernel_rfl) Try.func4
    (ChangeSpec.witness6 (enc := enc) (C := Try.checked) false ⟨#[], #[.agg #[.int .u8 0, .int .u64 0, .int .u64 0, .int .u64 0, .int .u64 0, .slice none 0 0], .agg #[.int .u8 0, .int .u64 0, .int .u64 0, .int .u64 0, .int .u64 0, .slice none 0 0], .agg #[.int .u8 0, .int .u64 0, .int .u64 0, .int .u64 0, .int .u64 0, .slice none 0 0]], []⟩ 8 (by kernel_rfl) (by kernel_rfl) (by kernel_rfl) (by kernel_rfl)) ?_
  intro W base args ds gs before hval0 hW hcnd _
  have hW' := hW
  obtain ⟨p, q, hA0, hV, rfl, hfz, hnd⟩ := hW
  have hA : DataW.TrodAll enc Try.prog W 0 (fun _ => true) true Try.f4.params.toList args.toList ds p := hA0
  rw [Try.params4] at hA
  obtain ⟨v0, v1, v2, d0, d1, d2, p0, p1, p2, rfl, rfl, rfl, h0, h1, h2⟩ := trodAll_three hA
  obtain ⟨rfl, rfl⟩ := trodVars_none hV
  obtain ⟨x, hx⟩ := re_arg reT h0
  obtain ⟨y, hy⟩ := re_arg reT h1
  obtain ⟨z, hz⟩ := re_arg reT h2
  refine (calls_true (orderThree x y z) (rdA_3 hx hy hz)).mono fun e W' ⟨he, hb⟩ => ?_
  subst he
  exact ⟨_, rfl, post_true laidOut hW' hb rfl Try.underlying4 rfl (by
    rw [Try.params4]
    intro t ht
    have : t = 27 := by simpa using ht
    rw [this]
    exact rrRe) ⟨rfl, rfl, rfl⟩⟩

theorem three_holds : Rows.OrderThreeSaid :=
  OpenClaim.holds_of_wide 4 Try.f4 rfl rfl rfl rfl rfl rfl rfl ⟨rfl, rfl, rfl, rfl, rfl⟩ rfl rfl rfl rfl rfl (by kernel_rfl) Try.func4 (by kernel_rfl)
    (of_decide_eq_true (by kernel_rfl)) (by unfold Func.isWrapper; first | (rw [if_pos (by decide +kernel)]; kernel_rfl) | (rw [if_neg (by decide +kernel)]; exact ⟨rfl, rfl⟩))
    (fun os started H enc _ => three_lifted os started H enc)
end Go.Proofs.Ytfpahhadchfmcaa.W
