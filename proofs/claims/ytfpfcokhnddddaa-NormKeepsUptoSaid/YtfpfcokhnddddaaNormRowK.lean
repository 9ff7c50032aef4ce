/- A normal form is its own one, has no more nodes, the same first bytes, and is nullable, or void, just if the expression is; what is handed in counts no more than 1048576. -/
import Derived.Test.YtfpfcokhnddddaaNormL
import Derived.Test.YtfpfcokhnddddaaBridge
import Derived.ChangeMaps5
import Derived.JoinedCond
import Derived.Test.YtfpfcokhnddddaaRows
set_option linter.unusedVariables false
set_option linter.unusedSimpArgs false
set_option linter.unusedSectionVars false
set_option maxRecDepth 100000
/- A normal form is its own one, has no more nodes, the same first bytes, and is nullable, or void, just if the expression is; what is handed in counts no more than 1048576. -/
namespace Go.Proofs.Ytfpfcokhnddddaa.W
open Go Go.Proofs Go.Proofs.Ytfpfcokhnddddaa.AWP Go.Proofs.Ytfpfcokhnddddaa
open Go.ChangeShapes Go.WideShapes Go.ChangeAt Go.RowKit

theorem own : ownKnob Try.prog.godebug = none := by kernel_rfl
theorem laidOut : laidOutB Try.prog = true := by kernel_rfl
theorem reT : ReT Try.prog 27 5 24 22 25 :=
  ⟨⟨_, _, _, Try.underlying27, ⟨rfl, rfl⟩, ⟨rfl, rfl⟩, ⟨rfl, rfl⟩⟩, Try.underlying5, Try.underlying24, Try.underlying22, Try.underlying25, by kernel_rfl, by kernel_rfl, by kernel_rfl, by kernel_rfl, by kernel_rfl⟩
theorem rrRe : Try.prog.readableRec 27 = true ∧ 27 < Try.prog.types.size := ⟨by kernel_rfl, of_decide_eq_true (by kernel_rfl)⟩

theorem normKeeps_lifted (os : Os) (started : os.Started) (H : Type) (enc : TypeId × Value → H) (I : Stop.Interp) :
    ReturnsInHanded {} Try.checked os 5 .any ((Rows.OpenSpec.upto Rows.normKeepsSpec).pre6 enc Try.prog Try.f5 Rows.normKeepsUptoRow.domain false) (((Rows.OpenSpec.upto Rows.normKeepsSpec).at I).post enc Try.prog Try.f5 false true false false) := by
  refine returnsInHanded_of_cond (C := Try.checked) (s := Rows.OpenSpec.upto Rows.normKeepsSpec) (k := Rows.uptoSmall) rfl own started (by kernel_rfl) Try.func5
    (OpenSpec.witness (enc := enc) (C := Try.checked) (s := Rows.OpenSpec.upto Rows.normKeepsSpec) (k := Rows.uptoSmall) rfl false ⟨#[], #[.agg #[.int .u8 0, .int .u64 0, .int .u64 0, .int .u64 0, .int .u64 0, .slice none 0 0]], []⟩ 8 (by kernel_rfl) (by kernel_rfl) (by kernel_rfl)
      (x := ([.agg [.lit (.int .u8 0), .agg [.lit (.int .u64 0), .lit (.int .u64 0), .lit (.int .u64 0), .lit (.int .u64 0)], .nil]], [], [])) (by kernel_rfl) rfl (by kernel_rfl)) ?_
  intro W base args ds gs before hval0 hW _ hk _
  have hW' := hW
  obtain ⟨p, q, hA0, hV, rfl, hfz, hnd⟩ := hW
  have hA : DataW.TrodAll enc Try.prog W 0 (fun _ => true) true Try.f5.params.toList args.toList ds p := hA0
  rw [Try.params5] at hA
  obtain ⟨v0, d0, rfl, rfl, h0⟩ := trodAll_one hA
  obtain ⟨rfl, rfl⟩ := trodVars_none hV
  obtain ⟨r, hr, hbr, hwr⟩ := re_argB reT h0
  have hk' := bulk_all hk
  simp only [List.append_nil, Rows.uptoBulkAll] at hk'
  refine (calls_true (normKeeps r (by omega) hwr) (rdA_1 hr)).mono fun e W' ⟨he, hb⟩ => ?_
  subst he
  exact ⟨_, rfl, post_true laidOut hW' hb rfl Try.underlying4 rfl (by
    rw [Try.params5]
    intro t ht
    have : t = 27 := by simpa using ht
    rw [this]
    exact rrRe) ⟨rfl, rfl, rfl⟩⟩

theorem normKeeps_holds : Rows.NormKeepsUptoSaid :=
  OpenClaim.holds_of_cond 5 Try.f5 rfl rfl rfl rfl rfl rfl rfl ⟨rfl, rfl, rfl, rfl, rfl⟩ rfl rfl rfl rfl rfl (by kernel_rfl) Try.func5 (by kernel_rfl)
    (of_decide_eq_true (by kernel_rfl)) (by unfold Func.isWrapper; first | (rw [if_pos (by decide +kernel)]; kernel_rfl) | (rw [if_neg (by decide +kernel)]; exact ⟨rfl, rfl⟩))
    (fun os started H enc _ I => normKeeps_lifted os started H enc I)
end Go.Proofs.Ytfpfcokhnddddaa.W
