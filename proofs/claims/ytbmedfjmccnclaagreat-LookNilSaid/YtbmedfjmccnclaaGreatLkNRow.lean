/- The row of LookNil: a nil look tells nothing, whatever the expression and the kind; at every size. -/
import Derived.Test.YtbmedfjmccnclaaGreatLkDRow
import Derived.Test.YtbmedfjmccnclaaGreatBridgeA
import Derived.ChangeMaps5
import Derived.JoinedCond
import Derived.HandedShaped
import Derived.Shelf.Vars
import Derived.Test.YtbmedfjmccnclaaGreatRows
set_option linter.unusedVariables false
set_option linter.unusedSimpArgs false
set_option linter.unusedSectionVars false
set_option maxRecDepth 100000
namespace Go.Proofs.YtbmedfjmccnclaaGreat.W
open Go Go.Proofs Go.Proofs.YtbmedfjmccnclaaGreat.AWP Go.Proofs.YtbmedfjmccnclaaGreat
open Go.ChangeShapes Go.WideShapes Go.ChangeAt Go.RowKit
theorem rrCf : Tryz.prog.readableRec 28 = true ∧ 28 < Tryz.prog.types.size := ⟨by kernel_rfl,of_decide_eq_true (by kernel_rfl)⟩
theorem rrInt : Tryz.prog.readableRec 3 = true ∧ 3 < Tryz.prog.types.size := ⟨by kernel_rfl,of_decide_eq_true (by kernel_rfl)⟩
theorem lookNil_lifted (os : Os) (started : os.Started) (H : Type) (enc : TypeId × Value → H) :
  ReturnsInHanded {} Tryz.checked os 6 .any (Rows.lookNilSpec.pre6 enc Tryz.prog Tryz.f6 Rows.lookNilRow.domain false) (Rows.lookNilSpec.post enc Tryz.prog Tryz.f6 false true false false) := by
 refine returnsInHanded_of_change_shaped (C := Tryz.checked) own started (by kernel_rfl) Tryz.func6
  (ChangeSpec.witness6 (enc := enc) (C := Tryz.checked) false ⟨#[],#[.agg #[.int .u8 0,.int .i64 0,.slice none 0 0],.int .i64 0],[]⟩ 8 (by kernel_rfl) (by kernel_rfl) (by kernel_rfl) (by kernel_rfl)) ?_
 intro W base args ds gs before hval0 hW hcnd _ hsh _
 have hW' := hW
 obtain ⟨p,q,hA0,hV,rfl,hfz,hnd⟩ := hW
 have hA : DataW.TrodAll enc Tryz.prog W 0 (fun _ => true) true Tryz.f6.params.toList args.toList ds p := hA0
 rw [Tryz.params6] at hA
 obtain ⟨v0,v1,d0,d1,p0,p1,rfl,rfl,rfl,h0,h1⟩ := trodAll_two hA
 obtain ⟨rfl,rfl⟩ := trodVars_none hV
 obtain ⟨x0,hx0,hb0⟩ := cf_argB h0
 obtain ⟨x1,rfl⟩ := okWide_int Tryz.underlying3 (hval0 1 3 v1 (by rw [Tryz.params6]; rfl) rfl)
 refine (calls_true (lookNilL x0 x1) (rdA_2 hx0 (.v _)) (hgOf hsh)).mono fun e W' ⟨he,hb⟩ => ?_
 subst he
 exact ⟨_,rfl,post_true laidOut hW' hb rfl Tryz.underlying4 rfl (by
  rw [Tryz.params6]
  intro t ht
  have : t = 28 ∨ t = 3 := by simpa using ht
  rcases this with rfl | rfl
  ·exact rrCf
  ·exact rrInt) ⟨rfl,rfl,rfl⟩⟩
theorem lookNil_holds : Rows.LookNilSaid :=
 OpenClaim.holds_of_wide 6 Tryz.f6 rfl rfl rfl rfl rfl rfl rfl ⟨rfl,rfl,rfl,rfl,rfl⟩ rfl rfl rfl rfl rfl (by kernel_rfl) Tryz.func6 (by kernel_rfl)
  (of_decide_eq_true (by kernel_rfl)) (by unfold Func.isWrapper; first | (rw [if_pos (by decide +kernel)]; kernel_rfl) | (rw [if_neg (by decide +kernel)]; exact ⟨rfl,rfl⟩))
  (fun os started H enc _ => lookNil_lifted os started H enc)
end Go.Proofs.YtbmedfjmccnclaaGreat.W
