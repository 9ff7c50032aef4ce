/- The expression of any text in any grammar, or the error and its place, is the document's; its text is read as it is. -/
import Derived.Test.YtdliolbjngcgcaaGreatCfBRow
import Derived.Test.YtdliolbjngcgcaaGreatBridgeA
import Derived.ChangeMaps5
import Derived.JoinedCond
import Derived.HandedShaped
import Derived.Shelf.Vars
import Derived.Test.YtdliolbjngcgcaaGreatRows
set_option linter.unusedVariables false
set_option linter.unusedSimpArgs false
set_option linter.unusedSectionVars false
set_option maxRecDepth 100000
namespace Go.Proofs.YtdliolbjngcgcaaGreat.W
open Go Go.Proofs Go.Proofs.YtdliolbjngcgcaaGreat.AWP Go.Proofs.YtdliolbjngcgcaaGreat
open Go.ChangeShapes Go.WideShapes Go.ChangeAt Go.RowKit
theorem rrStr : Tryz.prog.readableRec 9 = true ∧ 9 < Tryz.prog.types.size := ⟨by kernel_rfl, of_decide_eq_true (by kernel_rfl)⟩
theorem cfxOnes_lifted (os : Os) (started : os.Started) (H : Type) (enc : TypeId × Value → H) (I : Stop.Interp) :
  ReturnsInHanded {} Tryz.checked os 6 .any ((Rows.OpenSpec.upto Rows.cfxOnesSpec).pre6 enc Tryz.prog Tryz.f6 Rows.cfxOnesUptoRow.domain false) (((Rows.OpenSpec.upto Rows.cfxOnesSpec).at I).post enc Tryz.prog Tryz.f6 false true false false) := by
 refine returnsInHanded_of_calls (C := Tryz.checked) own started (by kernel_rfl)
  (OpenSpec.witness (enc := enc) (C := Tryz.checked) (s := Rows.OpenSpec.upto Rows.cfxOnesSpec) (k := Rows.uptoSmall) rfl false ⟨#[], #[.agg #[.slice none 0 0, .slice none 0 0], .string ⟨#[]⟩], []⟩ 8 (by kernel_rfl) (by kernel_rfl) (by kernel_rfl)
   (x := ([.agg [.nil, .nil], .lit (.string [])], [], [])) (by kernel_rfl) rfl (by kernel_rfl)) ?_
 intro w tape i _ hsh _ hok hpre _
 obtain ⟨_, _, _, fn', hfn', _, _, _, _, hval0⟩ := hok
 obtain rfl : fn' = Tryz.f6 := Option.some.inj (hfn'.symm.trans Tryz.func6)
 obtain ⟨ds, gs, before, hw0, hcnd, hk⟩ := (OpenSpec.pre_some (k := Rows.uptoSmall) rfl _ _ _ _).1 hpre.1
 have hW := DataW.Whole.of_heap (w' := w.forCall tape i) (by rfl) hw0
 generalize w.forCall tape i = W at *
 generalize i.args = args at *
 have hW' := hW
 obtain ⟨p, q, hA0, hV, rfl, hfz, hnd⟩ := hW
 have hA : DataW.TrodAll enc Tryz.prog W 0 (fun _ => true) true Tryz.f6.params.toList args.toList ds p := hA0
 rw [Tryz.params6] at hA
 obtain ⟨v0, v1, d0, d1, p0, p1, rfl, rfl, rfl, h0, h1⟩ := trodAll_two hA
 obtain ⟨rfl, rfl⟩ := trodVars_none hV
 have hk' : Rows.uptoBulkAll ([d0, d1] ++ ([] : List (DataW H))) ≤ 1048576 := by
  unfold Rows.uptoSmall at hk
  simpa using hk
 simp only [List.append_nil, Rows.uptoBulkAll] at hk'
 have HK0 : Rows.uptoBulk d0 ≤ 1048576 := by omega
 have HK1 : Rows.uptoBulk d1 ≤ 1048576 := by omega
 obtain ⟨x0, hx0, hb0⟩ := gr_argB h0
 have hz0 : ∀ z ∈ x0.defs, z.2.sz ≤ 1099511627776 := fun z hz => by have := hb0 z hz; have : Rows.uptoBulk d0 ≤ 1048576 := HK0; omega
 obtain ⟨x1, rfl⟩ := okWide_string Tryz.underlying9 (hval0 1 9 v1 (by rw [Tryz.params6]; rfl) rfl)
 refine (calls_true (cfxOnesL x0 x1 hz0) (rdA_2 hx0 (.v _)) (hgOf hsh)).mono fun e W' ⟨he, hb⟩ => ?_
 subst he
 exact ChangeSpec.post_blind (post_true laidOut hW' hb rfl Tryz.underlying4 rfl (by
  rw [Tryz.params6]
  intro t ht
  have : t = 26 ∨ t = 9 := by simpa using ht
  rcases this with rfl | rfl
  ·exact rrGr
  ·exact rrStr) ⟨rfl, rfl, rfl⟩)
theorem cfxOnes_holds : Rows.CfxOnesUptoSaid :=
 OpenClaim.holds_of_cond 6 Tryz.f6 rfl rfl rfl rfl rfl rfl rfl ⟨rfl, rfl, rfl, rfl, rfl⟩ rfl rfl rfl rfl rfl (by kernel_rfl) Tryz.func6 (by kernel_rfl)
  (of_decide_eq_true (by kernel_rfl)) (by unfold Func.isWrapper; first | (rw [if_pos (by decide +kernel)]; kernel_rfl) | (rw [if_neg (by decide +kernel)]; exact ⟨rfl, rfl⟩))
  (fun os started H enc _ I => cfxOnes_lifted os started H enc I)
end Go.Proofs.YtdliolbjngcgcaaGreat.W
