/- A text in round brackets is read as it is alone; two with a bar between as one of both. -/
import Derived.Test.YteifkcgokjmcjaaReadT
import Derived.Test.YteifkcgokjmcjaaBridge
import Derived.ChangeMaps5
import Derived.Test.YteifkcgokjmcjaaRows
set_option linter.unusedVariables false
set_option linter.unusedSimpArgs false
set_option linter.unusedSectionVars false
set_option maxRecDepth 100000
/- A text in round brackets is read as it is alone; two with a bar between as one of both. -/
namespace Go.Proofs.Yteifkcgokjmcjaa.W
open Go Go.Proofs Go.Proofs.Yteifkcgokjmcjaa.AWP Go.Proofs.Yteifkcgokjmcjaa
open Go.ChangeShapes Go.WideShapes Go.ChangeAt Go.RowKit

theorem own : ownKnob Try.prog.godebug = none := by kernel_rfl
theorem laidOut : laidOutB Try.prog = true := by kernel_rfl
theorem rrStr : Try.prog.readableRec 9 = true ∧ 9 < Try.prog.types.size := ⟨by kernel_rfl, of_decide_eq_true (by kernel_rfl)⟩

theorem readRound_lifted (os : Os) (started : os.Started) (H : Type) (enc : TypeId × Value → H) :
    ReturnsInHanded {} Try.checked os 5 .any (Rows.readRoundSpec.pre6 enc Try.prog Try.f5 Rows.readRoundRow.domain false) (Rows.readRoundSpec.post enc Try.prog Try.f5 false true false false) := by
  refine returnsInHanded_of_change (C := Try.checked) own started (by kernel_rfl) Try.func5
    (ChangeSpec.witness6 (enc := enc) (C := Try.checked) false ⟨#[], #[.string ⟨#[]⟩, .string ⟨#[]⟩], []⟩ 8 (by kernel_rfl) (by kernel_rfl) (by kernel_rfl) (by kernel_rfl)) ?_
  intro W base args ds gs before hval0 hW hcnd _
  have hW' := hW
  obtain ⟨p, q, hA0, hV, rfl, hfz, hnd⟩ := hW
  have hA : DataW.TrodAll enc Try.prog W 0 (fun _ => true) true Try.f5.params.toList args.toList ds p := hA0
  rw [Try.params5] at hA
  obtain ⟨v0, v1, d0, d1, p0, p1, rfl, rfl, rfl, h0, h1⟩ := trodAll_two hA
  obtain ⟨rfl, rfl⟩ := trodVars_none hV
  obtain ⟨s, rfl⟩ := okWide_string Try.underlying9 (hval0 0 9 v0 (by rw [Try.params5]; rfl) rfl)
  obtain ⟨t, rfl⟩ := okWide_string Try.underlying9 (hval0 1 9 v1 (by rw [Try.params5]; rfl) rfl)
  refine (calls_true (readRound s t) (rdA_2 (.v _) (.v _))).mono fun e W' ⟨he, hb⟩ => ?_
  subst he
  exact ⟨_, rfl, post_true laidOut hW' hb rfl Try.underlying4 rfl (by
    rw [Try.params5]
    intro t ht
    have : t = 9 := by simpa using ht
    rw [this]
    exact rrStr) ⟨rfl, rfl, rfl⟩⟩

theorem readRound_holds : Rows.ReadRoundSaid :=
  OpenClaim.holds_of_wide 5 Try.f5 rfl rfl rfl rfl rfl rfl rfl ⟨rfl, rfl, rfl, rfl, rfl⟩ rfl rfl rfl rfl rfl (by kernel_rfl) Try.func5 (by kernel_rfl)
    (of_decide_eq_true (by kernel_rfl)) (by unfold Func.isWrapper; first | (rw [if_pos (by decide +kernel)]; kernel_rfl) | (rw [if_neg (by decide +kernel)]; exact ⟨rfl, rfl⟩))
    (fun os started H enc _ => readRound_lifted os started H enc)
end Go.Proofs.Yteifkcgokjmcjaa.W
