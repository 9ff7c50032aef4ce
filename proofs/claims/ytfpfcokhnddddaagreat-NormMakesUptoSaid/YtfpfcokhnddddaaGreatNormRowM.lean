/- What is made with care of any expressions is the document's; what is handed in counts no more than 1048576. -/
import Derived.Test.YtfpfcokhnddddaaGreatReBulk
import Derived.Test.YtfpfcokhnddddaaGreatBridge
import Derived.ChangeMaps5
import Derived.JoinedCond
import Derived.Test.YtfpfcokhnddddaaGreatRows
set_option linter.unusedVariables false
set_option linter.unusedSimpArgs false
set_option linter.unusedSectionVars false
set_option maxRecDepth 100000
/- What is made with care of any expressions is the document's; what is handed in counts no more than 1048576. -/
namespace Go.Proofs.YtfpfcokhnddddaaGreat.W
open Go Go.Proofs Go.Proofs.YtfpfcokhnddddaaGreat.AWP Go.Proofs.YtfpfcokhnddddaaGreat
open Go.ChangeShapes Go.WideShapes Go.ChangeAt Go.RowKit

theorem own : ownKnob Tryz.prog.godebug = none := by kernel_rfl
theorem laidOut : laidOutB Tryz.prog = true := by kernel_rfl
theorem reT : ReT Tryz.prog 27 5 25 23 22 :=
  ⟨⟨_, _, _, Tryz.underlying27, ⟨rfl, rfl⟩, ⟨rfl, rfl⟩, ⟨rfl, rfl⟩⟩, Tryz.underlying5, Tryz.underlying25, Tryz.underlying23, Tryz.underlying22, by kernel_rfl, by kernel_rfl, by kernel_rfl, by kernel_rfl, by kernel_rfl⟩
theorem rrRes : Tryz.prog.readableRec 22 = true ∧ 22 < Tryz.prog.types.size := ⟨by kernel_rfl, of_decide_eq_true (by kernel_rfl)⟩
theorem rrRe : Tryz.prog.readableRec 27 = true ∧ 27 < Tryz.prog.types.size := ⟨by kernel_rfl, of_decide_eq_true (by kernel_rfl)⟩

theorem normMakes_lifted (os : Os) (started : os.Started) (H : Type) (enc : TypeId × Value → H) (I : Stop.Interp) :
    ReturnsInHanded {} Tryz.checked os 3 .any ((Rows.OpenSpec.upto Rows.normMakesSpec).pre6 enc Tryz.prog Tryz.f3 Rows.normMakesUptoRow.domain false) (((Rows.OpenSpec.upto Rows.normMakesSpec).at I).post enc Tryz.prog Tryz.f3 false true false false) := by
  refine returnsInHanded_of_cond (C := Tryz.checked) (s := Rows.OpenSpec.upto Rows.normMakesSpec) (k := Rows.uptoSmall) rfl own started (by kernel_rfl) Tryz.func3
    (OpenSpec.witness (enc := enc) (C := Tryz.checked) (s := Rows.OpenSpec.upto Rows.normMakesSpec) (k := Rows.uptoSmall) rfl false ⟨#[], #[.slice none 0 0, .agg #[.int .u8 0, .int .u64 0, .int .u64 0, .int .u64 0, .int .u64 0, .slice none 0 0]], []⟩ 8 (by kernel_rfl) (by kernel_rfl) (by kernel_rfl)
      (x := ([.nil, .agg [.lit (.int .u8 0), .agg [.lit (.int .u64 0), .lit (.int .u64 0), .lit (.int .u64 0), .lit (.int .u64 0)], .nil]], [], [])) (by kernel_rfl) rfl (by kernel_rfl)) ?_
  intro W base args ds gs before hval0 hW _ hk _
  have hW' := hW
  obtain ⟨p, q, hA0, hV, rfl, hfz, hnd⟩ := hW
  have hA : DataW.TrodAll enc Tryz.prog W 0 (fun _ => true) true Tryz.f3.params.toList args.toList ds p := hA0
  rw [Tryz.params3] at hA
  obtain ⟨v0, v1, d0, d1, p0, p1, rfl, rfl, rfl, h0, h1⟩ := trodAll_two hA
  obtain ⟨rfl, rfl⟩ := trodVars_none hV
  have hv0 := cells_of_slice Tryz.underlying22 (hval0 0 22 v0 (by rw [Tryz.params3]; rfl) rfl)
  obtain ⟨l, hl, hbl, hwl⟩ := res_argB reT hv0 h0
  obtain ⟨r, hr, hbr, hwr⟩ := re_argB reT h1
  have hk' := bulk_all hk
  simp only [List.append_nil, Rows.uptoBulkAll] at hk'
  refine (calls_true (normMakes l r (fun x hx => by have := Re.sz_mem hx; omega) (by omega) (fun x hx => Re.wds_mem hwl hx) hwr) (rdA_2 hl hr)).mono fun e W' ⟨he, hb⟩ => ?_
  subst he
  exact ⟨_, rfl, post_true laidOut hW' hb rfl Tryz.underlying4 rfl (by
    rw [Tryz.params3]
    intro t ht
    have : t = 22 ∨ t = 27 := by simpa using ht
    rcases this with rfl | rfl
    · exact rrRes
    · exact rrRe) ⟨rfl, rfl, rfl⟩⟩

theorem normMakes_holds : Rows.NormMakesUptoSaid :=
  OpenClaim.holds_of_cond 3 Tryz.f3 rfl rfl rfl rfl rfl rfl rfl ⟨rfl, rfl, rfl, rfl, rfl⟩ rfl rfl rfl rfl rfl (by kernel_rfl) Tryz.func3 (by kernel_rfl)
    (of_decide_eq_true (by kernel_rfl)) (by unfold Func.isWrapper; first | (rw [if_pos (by decide +kernel)]; kernel_rfl) | (rw [if_neg (by decide +kernel)]; exact ⟨rfl, rfl⟩))
    (fun os started H enc _ I => normMakes_lifted os started H enc I)
end Go.Proofs.YtfpfcokhnddddaaGreat.W
