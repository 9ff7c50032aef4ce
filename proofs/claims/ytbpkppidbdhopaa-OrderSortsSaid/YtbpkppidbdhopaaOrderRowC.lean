/- The law OrderAgain gives true for every row of expressions, whatever it holds, and leaves what is handed in as it was. Conditions: none beyond the given statement's own. -/
/- The law OrderAgain gives true for every row of expressions, whatever it holds, and leaves what is handed in as it was. Conditions: none beyond the given statement's own. -/
import Derived.Test.YtbpkppidbdhopaaOrderK
import Derived.Test.YtbpkppidbdhopaaRowSl
import Derived.Test.YtbpkppidbdhopaaRows
set_option linter.unusedSectionVars false
set_option linter.unusedVariables false
set_option linter.unusedSimpArgs false
set_option maxRecDepth 100000
namespace Go.Proofs.Ytbpkppidbdhopaa.W
open Go Go.Proofs Go.Proofs.Ytbpkppidbdhopaa.AWP Go.Proofs.Ytbpkppidbdhopaa
open Go.ChangeShapes Go.WideShapes Go.ChangeAt Go.RowKit

theorem own : ownKnob Try.prog.godebug = none := by kernel_rfl
theorem laidOut : laidOutB Try.prog = true := by kernel_rfl
theorem reT : ReT Try.prog 27 5 24 22 25 :=
  ⟨⟨_, _, _, Try.underlying27, ⟨rfl, rfl⟩, ⟨rfl, rfl⟩, ⟨rfl, rfl⟩⟩, Try.underlying5, Try.underlying24, Try.underlying22, Try.underlying25, by kernel_rfl, by kernel_rfl, by kernel_rfl, by kernel_rfl, by kernel_rfl⟩
theorem rrRes : Try.prog.readableRec 25 = true ∧ 25 < Try.prog.types.size := ⟨by kernel_rfl, of_decide_eq_true (by kernel_rfl)⟩

theorem again_lifted (os : Os) (started : os.Started) (H : Type) (enc : TypeId × Value → H) :
    ReturnsInHanded {} Try.checked os 5 .any (Rows.orderAgainSpec.pre6 enc Try.prog Try.f5 Rows.orderAgainRow.domain false) (Rows.orderAgainSpec.post enc Try.prog Try.f5 false true false false) := by
  refine returnsInHanded_of_change (C := Try.checked) own started (by kernel_rfl) Try.func5
    (ChangeSpec.witness6 (enc := enc) (C := Try.checked) false ⟨#[], #[.slice none 0 0], []⟩ 8 (by kernel_rfl) (by kernel_rfl) (by kernel_rfl) (by kernel_rfl)) ?_
  intro W base args ds gs before hval0 hW hcnd _
  have hW' := hW
  obtain ⟨p, q, hA0, hV, rfl, hfz, hnd⟩ := hW
  have hA : DataW.TrodAll enc Try.prog W 0 (fun _ => true) true Try.f5.params.toList args.toList ds p := hA0
  rw [Try.params5] at hA
  obtain ⟨v0, d0, rfl, rfl, h0⟩ := trodAll_one hA
  obtain ⟨rfl, rfl⟩ := trodVars_none hV
  have hv0 := cells_of_slice Try.underlying25 (hval0 0 25 v0 (by rw [Try.params5]; rfl) rfl)
  obtain ⟨l, hl⟩ := res_arg reT hv0 h0
  refine (calls_true (orderAgain l) (rdA_1 hl)).mono fun e W' ⟨he, hb⟩ => ?_
  subst he
  exact ⟨_, rfl, post_true laidOut hW' hb rfl Try.underlying4 rfl (by
    rw [Try.params5]
    intro t ht
    have : t = 25 := by simpa using ht
    rw [this]
    exact rrRes) ⟨rfl, rfl, rfl⟩⟩

theorem again_holds : Rows.OrderAgainSaid :=
  OpenClaim.holds_of_wide 5 Try.f5 rfl rfl rfl rfl rfl rfl rfl ⟨rfl, rfl, rfl, rfl, rfl⟩ rfl rfl rfl rfl rfl (by kernel_rfl) Try.func5 (by kernel_rfl)
    (of_decide_eq_true (by kernel_rfl)) (by unfold Func.isWrapper; first | (rw [if_pos (by decide +kernel)]; kernel_rfl) | (rw [if_neg (by decide +kernel)]; exact ⟨rfl, rfl⟩))
    (fun os started H enc _ => again_lifted os started H enc)
end Go.Proofs.Ytbpkppidbdhopaa.W
