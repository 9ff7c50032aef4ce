/- The expressions of any texts, or the first one with an error, are the document's. -/
import Derived.Test.YteifkcgokjmcjaaReadW
import Derived.Test.YteifkcgokjmcjaaRowStr
import Derived.Test.YteifkcgokjmcjaaBridge
import Derived.ChangeMaps5
import Derived.Test.YteifkcgokjmcjaaRows
set_option linter.unusedVariables false
set_option linter.unusedSimpArgs false
set_option linter.unusedSectionVars false
set_option maxRecDepth 100000
/- The expressions of any texts, or the first one with an error, are the document's. -/
namespace Go.Proofs.Yteifkcgokjmcjaa.W
open Go Go.Proofs Go.Proofs.Yteifkcgokjmcjaa.AWP Go.Proofs.Yteifkcgokjmcjaa
open Go.ChangeShapes Go.WideShapes Go.ChangeAt Go.RowKit

theorem own : ownKnob Try.prog.godebug = none := by kernel_rfl
theorem laidOut : laidOutB Try.prog = true := by kernel_rfl
theorem rrStrs : Try.prog.readableRec 41 = true ∧ 41 < Try.prog.types.size := ⟨by kernel_rfl, of_decide_eq_true (by kernel_rfl)⟩

theorem readAll_lifted (os : Os) (started : os.Started) (H : Type) (enc : TypeId × Value → H) :
    ReturnsInHanded {} Try.checked os 6 .any (Rows.readAllSpec.pre6 enc Try.prog Try.f6 Rows.readAllRow.domain false) (Rows.readAllSpec.post enc Try.prog Try.f6 false true false false) := by
  refine returnsInHanded_of_change (C := Try.checked) own started (by kernel_rfl) Try.func6
    (ChangeSpec.witness6 (enc := enc) (C := Try.checked) false ⟨#[], #[.slice none 0 0], []⟩ 8 (by kernel_rfl) (by kernel_rfl) (by kernel_rfl) (by kernel_rfl)) ?_
  intro W base args ds gs before hval0 hW hcnd _
  have hW' := hW
  obtain ⟨p, q, hA0, hV, rfl, hfz, hnd⟩ := hW
  have hA : DataW.TrodAll enc Try.prog W 0 (fun _ => true) true Try.f6.params.toList args.toList ds p := hA0
  rw [Try.params6] at hA
  obtain ⟨v0, d0, rfl, rfl, h0⟩ := trodAll_one hA
  obtain ⟨rfl, rfl⟩ := trodVars_none hV
  have hv0 := cells_of_slice Try.underlying41 (hval0 0 41 v0 (by rw [Try.params6]; rfl) rfl)
  obtain ⟨l, hl⟩ := strs_arg Try.underlying41 Try.underlying9 (by kernel_rfl) hv0 h0
  refine (calls_true (readAll l) (rdA_1 hl)).mono fun e W' ⟨he, hb⟩ => ?_
  subst he
  exact ⟨_, rfl, post_true laidOut hW' hb rfl Try.underlying4 rfl (by
    rw [Try.params6]
    intro t ht
    have : t = 41 := by simpa using ht
    rw [this]
    exact rrStrs) ⟨rfl, rfl, rfl⟩⟩

theorem readAll_holds : Rows.ReadAllSaid :=
  OpenClaim.holds_of_wide 6 Try.f6 rfl rfl rfl rfl rfl rfl rfl ⟨rfl, rfl, rfl, rfl, rfl⟩ rfl rfl rfl rfl rfl (by kernel_rfl) Try.func6 (by kernel_rfl)
    (of_decide_eq_true (by kernel_rfl)) (by unfold Func.isWrapper; first | (rw [if_pos (by decide +kernel)]; kernel_rfl) | (rw [if_neg (by decide +kernel)]; exact ⟨rfl, rfl⟩))
    (fun os started H enc _ => readAll_lifted os started H enc)
end Go.Proofs.Yteifkcgokjmcjaa.W
