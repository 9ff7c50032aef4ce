/- A text whose expression has too many nodes is refused as that; one of too many bytes as that. -/
import Derived.Test.YteifkcgokjmcjaaReadU
import Derived.Test.YteifkcgokjmcjaaRowStr
import Derived.Test.YteifkcgokjmcjaaBridge
import Derived.ChangeMaps5
import Derived.Test.YteifkcgokjmcjaaRows
set_option linter.unusedVariables false
set_option linter.unusedSimpArgs false
set_option linter.unusedSectionVars false
set_option maxRecDepth 100000
/- A text whose expression has too many nodes is refused as that; one of too many bytes as that. -/
namespace Go.Proofs.Yteifkcgokjmcjaa.W
open Go Go.Proofs Go.Proofs.Yteifkcgokjmcjaa.AWP Go.Proofs.Yteifkcgokjmcjaa
open Go.ChangeShapes Go.WideShapes Go.ChangeAt Go.RowKit

theorem own : ownKnob Try.prog.godebug = none := by kernel_rfl
theorem laidOut : laidOutB Try.prog = true := by kernel_rfl
theorem rrU8 : Try.prog.readableRec 5 = true ∧ 5 < Try.prog.types.size := ⟨by kernel_rfl, of_decide_eq_true (by kernel_rfl)⟩
theorem rrBool : Try.prog.readableRec 4 = true ∧ 4 < Try.prog.types.size := ⟨by kernel_rfl, of_decide_eq_true (by kernel_rfl)⟩

theorem readMost_lifted (os : Os) (started : os.Started) (H : Type) (enc : TypeId × Value → H) :
    ReturnsInHanded {} Try.checked os 4 .any (Rows.readMostSpec.pre6 enc Try.prog Try.f4 Rows.readMostRow.domain false) (Rows.readMostSpec.post enc Try.prog Try.f4 false true false false) := by
  refine returnsInHanded_of_change (C := Try.checked) own started (by kernel_rfl) Try.func4
    (ChangeSpec.witness6 (enc := enc) (C := Try.checked) false ⟨#[], #[.int .u8 0, .bool false], []⟩ 8 (by kernel_rfl) (by kernel_rfl) (by kernel_rfl) (by kernel_rfl)) ?_
  intro W base args ds gs before hval0 hW hcnd _
  have hW' := hW
  obtain ⟨p, q, hA0, hV, rfl, hfz, hnd⟩ := hW
  have hA : DataW.TrodAll enc Try.prog W 0 (fun _ => true) true Try.f4.params.toList args.toList ds p := hA0
  rw [Try.params4] at hA
  obtain ⟨v0, v1, d0, d1, p0, p1, rfl, rfl, rfl, h0, h1⟩ := trodAll_two hA
  obtain ⟨rfl, rfl⟩ := trodVars_none hV
  obtain ⟨n, hn⟩ := okWide_int Try.underlying5 (hval0 0 5 v0 (by rw [Try.params4]; rfl) rfl)
  obtain ⟨b, rfl⟩ := byte_arg Try.underlying5 hn h0
  obtain ⟨c, rfl⟩ := okWide_bool Try.underlying4 (hval0 1 4 v1 (by rw [Try.params4]; rfl) rfl)
  refine (calls_true (readMost b c) (rdA_2 (.v _) (.v _))).mono fun e W' ⟨he, hb⟩ => ?_
  subst he
  exact ⟨_, rfl, post_true laidOut hW' hb rfl Try.underlying4 rfl (by
    rw [Try.params4]
    intro t ht
    have : t = 5 ∨ t = 4 := by simpa using ht
    rcases this with rfl | rfl
    · exact rrU8
    · exact rrBool) ⟨rfl, rfl, rfl⟩⟩

theorem readMost_holds : Rows.ReadMostSaid :=
  OpenClaim.holds_of_wide 4 Try.f4 rfl rfl rfl rfl rfl rfl rfl ⟨rfl, rfl, rfl, rfl, rfl⟩ rfl rfl rfl rfl rfl (by kernel_rfl) Try.func4 (by kernel_rfl)
    (of_decide_eq_true (by kernel_rfl)) (by unfold Func.isWrapper; first | (rw [if_pos (by decide +kernel)]; kernel_rfl) | (rw [if_neg (by decide +kernel)]; exact ⟨rfl, rfl⟩))
    (fun os started H enc _ => readMost_lifted os started H enc)
end Go.Proofs.Yteifkcgokjmcjaa.W
