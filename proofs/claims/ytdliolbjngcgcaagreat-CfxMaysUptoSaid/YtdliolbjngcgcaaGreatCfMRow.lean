/- May grammars be, and an expression in one; their texts. -/
import Derived.Test.YtdliolbjngcgcaaGreatCfORow
set_option linter.unusedVariables false
set_option linter.unusedSimpArgs false
set_option linter.unusedSectionVars false
set_option maxRecDepth 100000
namespace Go.Proofs.YtdliolbjngcgcaaGreat.W
open Go Go.Proofs Go.Proofs.YtdliolbjngcgcaaGreat.AWP Go.Proofs.YtdliolbjngcgcaaGreat
open Go.ChangeShapes Go.WideShapes Go.ChangeAt Go.RowKit
section
variable {H : Type} {enc : TypeId × Value → H} {W : World} {sp : Nat → Bool} {hd : Bool}
end
theorem rrGrs : Tryz.prog.readableRec 37 = true ∧ 37 < Tryz.prog.types.size := ⟨by kernel_rfl, of_decide_eq_true (by kernel_rfl)⟩
theorem rrCf : Tryz.prog.readableRec 40 = true ∧ 40 < Tryz.prog.types.size := ⟨by kernel_rfl, of_decide_eq_true (by kernel_rfl)⟩
theorem cfxMays_lifted (os : Os) (started : os.Started) (H : Type) (enc : TypeId × Value → H) (I : Stop.Interp) :
  ReturnsInHanded {} Tryz.checked os 5 .any ((Rows.OpenSpec.upto Rows.cfxMaysSpec).pre6 enc Tryz.prog Tryz.f5 Rows.cfxMaysUptoRow.domain false) (((Rows.OpenSpec.upto Rows.cfxMaysSpec).at I).post enc Tryz.prog Tryz.f5 false true false false) := by
 refine returnsInHanded_of_calls (C := Tryz.checked) own started (by kernel_rfl)
  (OpenSpec.witness (enc := enc) (C := Tryz.checked) (s := Rows.OpenSpec.upto Rows.cfxMaysSpec) (k := Rows.uptoSmall) rfl false ⟨#[], #[.slice none 0 0, .agg #[.int .u8 0, .int .i64 0, .slice none 0 0]], []⟩ 8 (by kernel_rfl) (by kernel_rfl) (by kernel_rfl)
   (x := ([.nil, .agg [.lit (.int .u8 0), .lit (.int .i64 0), .nil]], [], [])) (by kernel_rfl) rfl (by kernel_rfl)) ?_
 intro w tape i _ hsh _ hok hpre _
 obtain ⟨_, _, _, fn', hfn', _, _, _, _, hval0⟩ := hok
 obtain rfl : fn' = Tryz.f5 := Option.some.inj (hfn'.symm.trans Tryz.func5)
 obtain ⟨ds, gs, before, hw0, hcnd, hk⟩ := (OpenSpec.pre_some (k := Rows.uptoSmall) rfl _ _ _ _).1 hpre.1
 have hW := DataW.Whole.of_heap (w' := w.forCall tape i) (by rfl) hw0
 generalize w.forCall tape i = W at *
 generalize i.args = args at *
 have hW' := hW
 obtain ⟨p, q, hA0, hV, rfl, hfz, hnd⟩ := hW
 have hA : DataW.TrodAll enc Tryz.prog W 0 (fun _ => true) true Tryz.f5.params.toList args.toList ds p := hA0
 rw [Tryz.params5] at hA
 obtain ⟨v0, v1, d0, d1, p0, p1, rfl, rfl, rfl, h0, h1⟩ := trodAll_two hA
 obtain ⟨rfl, rfl⟩ := trodVars_none hV
 have hv0 := cells_of_slice Tryz.underlying37 (hval0 0 37 v0 (by rw [Tryz.params5]; rfl) rfl)
 obtain ⟨l, hl, hbl⟩ := grs_argB hv0 h0
 obtain ⟨c, hc, hbc⟩ := cf_argB h1
 have hk' : Rows.uptoBulkAll ([d0, d1] ++ ([] : List (DataW H))) ≤ 1048576 := by
  unfold Rows.uptoSmall at hk
  simpa using hk
 simp only [List.append_nil, Rows.uptoBulkAll] at hk'
 refine (calls_true (cfxMaysL l c (by omega) fun g hg x hx => by have := hbl g hg x hx; omega) (rdA_2 hl hc) (hgOf hsh)).mono fun e W' ⟨he, hb⟩ => ?_
 subst he
 exact ChangeSpec.post_blind (post_true laidOut hW' hb rfl Tryz.underlying4 rfl (by
  rw [Tryz.params5]
  intro t ht
  have : t = 37 ∨ t = 40 := by simpa using ht
  rcases this with rfl | rfl
  ·exact rrGrs
  ·exact rrCf) ⟨rfl, rfl, rfl⟩)
theorem cfxMays_holds : Rows.CfxMaysUptoSaid :=
 OpenClaim.holds_of_cond 5 Tryz.f5 rfl rfl rfl rfl rfl rfl rfl ⟨rfl, rfl, rfl, rfl, rfl⟩ rfl rfl rfl rfl rfl (by kernel_rfl) Tryz.func5 (by kernel_rfl)
  (of_decide_eq_true (by kernel_rfl)) (by unfold Func.isWrapper; first | (rw [if_pos (by decide +kernel)]; kernel_rfl) | (rw [if_neg (by decide +kernel)]; exact ⟨rfl, rfl⟩))
  (fun os started H enc _ I => cfxMays_lifted os started H enc I)
end Go.Proofs.YtdliolbjngcgcaaGreat.W
