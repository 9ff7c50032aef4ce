/- What fits nothing has no first bytes and isn't nullable; what isn't so, and isn't nullable, has some; what is handed in counts no more than 1048576. -/
import Derived.Test.YteifkcgokjmcjaaNullE
import Derived.Test.YteifkcgokjmcjaaReBulk
import Derived.Test.YteifkcgokjmcjaaBridge
import Derived.ChangeMaps5
import Derived.JoinedCond
import Derived.Test.YteifkcgokjmcjaaRows
set_option linter.unusedVariables false
set_option linter.unusedSimpArgs false
set_option linter.unusedSectionVars false
set_option maxRecDepth 100000
/- What fits nothing has no first bytes and isn't nullable; what isn't so, and isn't nullable, has some; what is handed in counts no more than 1048576. -/
namespace Go.Proofs.Yteifkcgokjmcjaa.W
open Go Go.Proofs Go.Proofs.Yteifkcgokjmcjaa.AWP Go.Proofs.Yteifkcgokjmcjaa
open Go.ChangeShapes Go.WideShapes Go.ChangeAt Go.RowKit

theorem own : ownKnob Try.prog.godebug = none := by kernel_rfl
theorem laidOut : laidOutB Try.prog = true := by kernel_rfl
theorem reT : ReT Try.prog 28 5 25 23 26 :=
  ⟨⟨_, _, _, Try.underlying28, ⟨rfl, rfl⟩, ⟨rfl, rfl⟩, ⟨rfl, rfl⟩⟩, Try.underlying5, Try.underlying25, Try.underlying23, Try.underlying26, by kernel_rfl, by kernel_rfl, by kernel_rfl, by kernel_rfl, by kernel_rfl⟩
theorem rrRe : Try.prog.readableRec 28 = true ∧ 28 < Try.prog.types.size := ⟨by kernel_rfl, of_decide_eq_true (by kernel_rfl)⟩

theorem nullWays_lifted (os : Os) (started : os.Started) (H : Type) (enc : TypeId × Value → H) (I : Stop.Interp) :
    ReturnsInHanded {} Try.checked os 13 .any ((Rows.OpenSpec.upto Rows.nullWaysSpec).pre6 enc Try.prog Try.f13 Rows.nullWaysUptoRow.domain false) (((Rows.OpenSpec.upto Rows.nullWaysSpec).at I).post enc Try.prog Try.f13 false true false false) := by
  refine returnsInHanded_of_cond (C := Try.checked) (s := Rows.OpenSpec.upto Rows.nullWaysSpec) (k := Rows.uptoSmall) rfl own started (by kernel_rfl) Try.func13
    (OpenSpec.witness (enc := enc) (C := Try.checked) (s := Rows.OpenSpec.upto Rows.nullWaysSpec) (k := Rows.uptoSmall) rfl false ⟨#[], #[.agg #[.int .u8 0, .int .u64 0, .int .u64 0, .int .u64 0, .int .u64 0, .slice none 0 0]], []⟩ 8 (by kernel_rfl) (by kernel_rfl) (by kernel_rfl)
      (x := ([.agg [.lit (.int .u8 0), .agg [.lit (.int .u64 0), .lit (.int .u64 0), .lit (.int .u64 0), .lit (.int .u64 0)], .nil]], [], [])) (by kernel_rfl) rfl (by kernel_rfl)) ?_
  intro W base args ds gs before hval0 hW _ hk _
  have hW' := hW
  obtain ⟨p, q, hA0, hV, rfl, hfz, hnd⟩ := hW
  have hA : DataW.TrodAll enc Try.prog W 0 (fun _ => true) true Try.f13.params.toList args.toList ds p := hA0
  rw [Try.params13] at hA
  obtain ⟨v0, d0, rfl, rfl, h0⟩ := trodAll_one hA
  obtain ⟨rfl, rfl⟩ := trodVars_none hV
  obtain ⟨r, hr, hbr, hwr⟩ := re_argB reT h0
  have hk' := bulk_all hk
  simp only [List.append_nil, Rows.uptoBulkAll] at hk'
  refine (calls_true (nullWays r (by omega) hwr) (rdA_1 hr)).mono fun e W' ⟨he, hb⟩ => ?_
  subst he
  exact ⟨_, rfl, post_true laidOut hW' hb rfl Try.underlying4 rfl (by
    rw [Try.params13]
    intro t ht
    have : t = 28 := by simpa using ht
    rw [this]
    exact rrRe) ⟨rfl, rfl, rfl⟩⟩

theorem nullWays_holds : Rows.NullWaysUptoSaid :=
  OpenClaim.holds_of_cond 13 Try.f13 rfl rfl rfl rfl rfl rfl rfl ⟨rfl, rfl, rfl, rfl, rfl⟩ rfl rfl rfl rfl rfl (by kernel_rfl) Try.func13 (by kernel_rfl)
    (of_decide_eq_true (by kernel_rfl)) (by unfold Func.isWrapper; first | (rw [if_pos (by decide +kernel)]; kernel_rfl) | (rw [if_neg (by decide +kernel)]; exact ⟨rfl, rfl⟩))
    (fun os started H enc _ I => nullWays_lifted os started H enc I)
end Go.Proofs.Yteifkcgokjmcjaa.W
