/- Whether any expression fits any texts, and which of some fits one, is the document's; what is handed in counts no more than 1048576. -/
import Derived.Test.YteifkcgokjmcjaaMatchQ
import Derived.Test.YteifkcgokjmcjaaReBulk
import Derived.Test.YteifkcgokjmcjaaRowStr
import Derived.Test.YteifkcgokjmcjaaBridge
import Derived.ChangeMaps5
import Derived.JoinedCond
import Derived.Test.YteifkcgokjmcjaaRows
set_option linter.unusedVariables false
set_option linter.unusedSimpArgs false
set_option linter.unusedSectionVars false
set_option maxRecDepth 100000
/- Whether any expression fits any texts, and which of some fits one, is the document's; what is handed in counts no more than 1048576. -/
namespace Go.Proofs.Yteifkcgokjmcjaa.W
open Go Go.Proofs Go.Proofs.Yteifkcgokjmcjaa.AWP Go.Proofs.Yteifkcgokjmcjaa
open Go.ChangeShapes Go.WideShapes Go.ChangeAt Go.RowKit

theorem own : ownKnob Try.prog.godebug = none := by kernel_rfl
theorem laidOut : laidOutB Try.prog = true := by kernel_rfl
theorem reT : ReT Try.prog 28 5 25 23 26 :=
  ⟨⟨_, _, _, Try.underlying28, ⟨rfl, rfl⟩, ⟨rfl, rfl⟩, ⟨rfl, rfl⟩⟩, Try.underlying5, Try.underlying25, Try.underlying23, Try.underlying26, by kernel_rfl, by kernel_rfl, by kernel_rfl, by kernel_rfl, by kernel_rfl⟩
theorem rrRe : Try.prog.readableRec 28 = true ∧ 28 < Try.prog.types.size := ⟨by kernel_rfl, of_decide_eq_true (by kernel_rfl)⟩
theorem rrStrs : Try.prog.readableRec 41 = true ∧ 41 < Try.prog.types.size := ⟨by kernel_rfl, of_decide_eq_true (by kernel_rfl)⟩
theorem rrRes : Try.prog.readableRec 26 = true ∧ 26 < Try.prog.types.size := ⟨by kernel_rfl, of_decide_eq_true (by kernel_rfl)⟩

theorem matchFits_lifted (os : Os) (started : os.Started) (H : Type) (enc : TypeId × Value → H) (I : Stop.Interp) :
    ReturnsInHanded {} Try.checked os 12 .any ((Rows.OpenSpec.upto Rows.matchFitsSpec).pre6 enc Try.prog Try.f12 Rows.matchFitsUptoRow.domain false) (((Rows.OpenSpec.upto Rows.matchFitsSpec).at I).post enc Try.prog Try.f12 false true false false) := by
  refine returnsInHanded_of_cond (C := Try.checked) (s := Rows.OpenSpec.upto Rows.matchFitsSpec) (k := Rows.uptoSmall) rfl own started (by kernel_rfl) Try.func12
    (OpenSpec.witness (enc := enc) (C := Try.checked) (s := Rows.OpenSpec.upto Rows.matchFitsSpec) (k := Rows.uptoSmall) rfl false ⟨#[], #[.agg #[.int .u8 0, .int .u64 0, .int .u64 0, .int .u64 0, .int .u64 0, .slice none 0 0], .slice none 0 0, .slice none 0 0], []⟩ 8 (by kernel_rfl) (by kernel_rfl) (by kernel_rfl)
      (x := ([.agg [.lit (.int .u8 0), .agg [.lit (.int .u64 0), .lit (.int .u64 0), .lit (.int .u64 0), .lit (.int .u64 0)], .nil], .nil, .nil], [], [])) (by kernel_rfl) rfl (by kernel_rfl)) ?_
  intro W base args ds gs before hval0 hW _ hk _
  have hW' := hW
  obtain ⟨p, q, hA0, hV, rfl, hfz, hnd⟩ := hW
  have hA : DataW.TrodAll enc Try.prog W 0 (fun _ => true) true Try.f12.params.toList args.toList ds p := hA0
  rw [Try.params12] at hA
  obtain ⟨v0, v1, v2, d0, d1, d2, p0, p1, p2, rfl, rfl, rfl, h0, h1, h2⟩ := trodAll_three hA
  obtain ⟨rfl, rfl⟩ := trodVars_none hV
  obtain ⟨r, hr, hbr, hwr⟩ := re_argB reT h0
  have hv1 := cells_of_slice Try.underlying41 (hval0 1 41 v1 (by rw [Try.params12]; rfl) rfl)
  obtain ⟨l, hl⟩ := strs_arg Try.underlying41 Try.underlying9 (by kernel_rfl) hv1 h1
  have hv2 := cells_of_slice Try.underlying26 (hval0 2 26 v2 (by rw [Try.params12]; rfl) rfl)
  obtain ⟨some_, hso, hbs, hws⟩ := res_argB reT hv2 h2
  have hk' := bulk_all hk
  simp only [List.append_nil, Rows.uptoBulkAll] at hk'
  refine (calls_true (matchFits r l some_ (by omega) hwr (fun x hx => by have := Re.sz_mem hx; omega) (fun x hx => Re.wds_mem hws hx)) (rdA_3 hr hl hso)).mono fun e W' ⟨he, hb⟩ => ?_
  subst he
  exact ⟨_, rfl, post_true laidOut hW' hb rfl Try.underlying4 rfl (by
    rw [Try.params12]
    intro t ht
    have : t = 28 ∨ t = 41 ∨ t = 26 := by simpa using ht
    rcases this with rfl | rfl | rfl
    · exact rrRe
    · exact rrStrs
    · exact rrRes) ⟨rfl, rfl, rfl⟩⟩

theorem matchFits_holds : Rows.MatchFitsUptoSaid :=
  OpenClaim.holds_of_cond 12 Try.f12 rfl rfl rfl rfl rfl rfl rfl ⟨rfl, rfl, rfl, rfl, rfl⟩ rfl rfl rfl rfl rfl (by kernel_rfl) Try.func12 (by kernel_rfl)
    (of_decide_eq_true (by kernel_rfl)) (by unfold Func.isWrapper; first | (rw [if_pos (by decide +kernel)]; kernel_rfl) | (rw [if_neg (by decide +kernel)]; exact ⟨rfl, rfl⟩))
    (fun os started H enc _ I => matchFits_lifted os started H enc I)
end Go.Proofs.Yteifkcgokjmcjaa.W
