/- What is left behind two texts, one behind the other, is what is left step by step. What is handed in counts no more than 1048576; the table is tied to the text. -/
import Derived.Test.YtlejbkfefpfolaaDoorReBulk
import Derived.Test.YtlejbkfefpfolaaDoorBridge
import Derived.ChangeMaps5
import Derived.JoinedCond
import Derived.Deep.DeepHandedRow
import Derived.Lib.LaidTab
import Derived.Test.YtlejbkfefpfolaaDoorCards
import Derived.Test.YtlejbkfefpfolaaDoorTie
set_option linter.unusedVariables false
set_option linter.unusedSimpArgs false
set_option linter.unusedSectionVars false
set_option maxRecDepth 100000
/- What is left behind two texts, one behind the other, is what is left step by step. What is handed in counts no more than 1048576; the table is tied to the text. -/
namespace Go.Proofs.YtlejbkfefpfolaaDoor.W
open Go Go.Proofs Go.Proofs.YtlejbkfefpfolaaDoor.AWP Go.Proofs.YtlejbkfefpfolaaDoor
open Go.ChangeShapes Go.WideShapes Go.ChangeAt Go.RowKit
theorem own : ownKnob Tryd.prog.godebug = none := by kernel_rfl
theorem laidOut : laidOutB Tryd.prog = true := by kernel_rfl
theorem reT : ReT Tryd.prog 27 5 24 22 25 :=
  ⟨⟨_, _, _, Tryd.underlying27, ⟨rfl, rfl⟩, ⟨rfl, rfl⟩, ⟨rfl, rfl⟩⟩, Tryd.underlying5, Tryd.underlying24, Tryd.underlying22, Tryd.underlying25, by kernel_rfl, by kernel_rfl, by kernel_rfl, by kernel_rfl, by kernel_rfl⟩
theorem rrRe : Tryd.prog.readableRec 27 = true ∧ 27 < Tryd.prog.types.size := ⟨by kernel_rfl, of_decide_eq_true (by kernel_rfl)⟩
theorem rrStr : Tryd.prog.readableRec 9 = true ∧ 9 < Tryd.prog.types.size := ⟨by kernel_rfl, of_decide_eq_true (by kernel_rfl)⟩
theorem gTab : Tryd.prog.globalNamed "math/bits.deBruijn64tab" = some 0 := by kernel_rfl
theorem gTabType : (Tryd.prog.globals[0]?).map (·.type) = some 121 := by kernel_rfl
theorem cellsTab : Tryd.prog.cellsOf 121 = 64 := by kernel_rfl
theorem cells5 : Tryd.prog.cellsOf 5 = 1 := by kernel_rfl
theorem table {W : World} (h : laidMetH Tryd.prog Rows.derivPartsUptoRow.laid W) : Lib.TabIs Tryd.prog W "math/bits.deBruijn64tab" .u8 gbytes :=
  Lib.tabIs_of_head (rest := []) gTab gTabType Tryd.underlying121 Tryd.underlying5 cells5 cellsTab h
theorem hgOf {W : World} (h : laidMetH Tryd.prog Rows.derivPartsUptoRow.laid W) (g : Nat) (c : List D) (hc : gtab g = some c) : Rd (envAt W) (.pel c) (.pointer (some ⟨g, 0, none⟩)) := by
  have ht := table h
  have hl : gbytes.length = 64 := by decide
  unfold gtab at hc
  rw [if_neg (by decide)] at hc
  split at hc
  · rename_i hg
    cases hc
    obtain rfl : g = 0 := hg
    have hcell := fun i hi => ht.cell gTab i hi
    refine Rd.pel_mk (cell_lt (hcell 0 (by omega))) fun j d hj => ?_
    unfold gtbl at hj
    rw [List.getElem?_map] at hj
    cases hb : gbytes[j]? with
    | none => rw [hb] at hj; cases hj
    | some z =>
      rw [hb] at hj
      cases hj
      have hjl := (List.getElem?_eq_some_iff.1 hb).1
      refine ⟨.int .u8 z, ?_, rfl, .v _⟩
      rw [add_mk, Nat.zero_add]
      show W.cell? _ = _
      rw [hcell j hjl, List.getD_eq_getElem?_getD, hb]; rfl
  · cases hc
noncomputable def laidWorld (os : Os) : World :=
  { World.holding Tryd.prog os ⟨#[], #[], []⟩ with heap := (World.holding Tryd.prog os ⟨#[], #[], []⟩).heap.modify 0 fun
      | .cells _ t frozen => .cells (gbytes.map fun z => Value.int .u8 z).toArray t frozen
      | o => o }
abbrev wArgs : Array Value := #[.agg #[.int .u8 0, .int .u64 0, .int .u64 0, .int .u64 0, .int .u64 0, .slice none 0 0], .string ⟨#[]⟩, .string ⟨#[]⟩]
theorem laid_met (os : Os) : laidMet Tryd.prog Rows.derivPartsUptoRow.laid ((laidWorld os).forCall (fun _ _ => 0) ⟨#[], wArgs, []⟩).memory :=
  laidMet_of_run' 80 (by kernel_rfl) (by kernel_rfl)
theorem reads (os : Os) {H : Type} (enc : TypeId × Value → H) : ∃ places, DataW.whole enc Tryd.prog ((laidWorld os).forCall (fun _ _ => 0) ⟨#[], wArgs, []⟩).memory Tryd.f5.params.toList Rows.derivPartsSpec.vars false wArgs.toList 8 = some ([.agg [.lit (.int .u8 0), .agg [.lit (.int .u64 0), .lit (.int .u64 0), .lit (.int .u64 0), .lit (.int .u64 0)], .nil], .lit (.string []), .lit (.string [])], [], places) :=
  ⟨[], by kernel_rfl⟩
theorem derivParts_lifted (os : Os) (started : os.Started) (H : Type) (enc : TypeId × Value → H) (F : Stop.Interp) :
    ReturnsInHanded {} Tryd.checked os 5 .any ((Rows.OpenSpec.upto Rows.derivPartsSpec).preRow enc Tryd.prog Tryd.f5 Rows.derivPartsUptoRow.domain false Rows.derivPartsUptoRow.laid) (((Rows.OpenSpec.upto Rows.derivPartsSpec).at F).post enc Tryd.prog Tryd.f5 false true false false) := by
  obtain ⟨places, hx⟩ := reads os enc
  refine returnsInHanded_of_row (C := Tryd.checked) (s := Rows.OpenSpec.upto Rows.derivPartsSpec) own started (by kernel_rfl) Tryd.func5
    (witness_row_at (enc := enc) (C := Tryd.checked) false (laidWorld os) wArgs rfl (by kernel_rfl) (by kernel_rfl) (by kernel_rfl)
      (OpenSpec.preRow_of_cond 8 hx (by kernel_rfl) (fun k hk => by cases hk; kernel_rfl) (by kernel_rfl) (laid_met os))) ?_
  intro W base args ds gs before hval0 hW _ hcond _ hL _ _
  have hk := hcond _ rfl
  have hW' := hW
  obtain ⟨p, q, hA0, hV, rfl, hfz, hnd⟩ := hW
  have hA : DataW.TrodAll enc Tryd.prog W 0 (fun _ => true) true Tryd.f5.params.toList args.toList ds p := hA0
  rw [Tryd.params5] at hA
  obtain ⟨v0, v1, v2, d0, d1, d2, p0, p1, p2, rfl, rfl, rfl, h0, h1, h2⟩ := trodAll_three hA
  obtain ⟨rfl, rfl⟩ := trodVars_none hV
  obtain ⟨r, hrr, hbr, hwr⟩ := re_argB reT h0
  obtain ⟨s, rfl⟩ := okWide_string Tryd.underlying9 (hval0 1 9 v1 (by rw [Tryd.params5]; rfl) rfl)
  obtain ⟨t, rfl⟩ := okWide_string Tryd.underlying9 (hval0 2 9 v2 (by rw [Tryd.params5]; rfl) rfl)
  have hk' := bulk_all hk
  simp only [List.append_nil, Rows.uptoBulkAll] at hk'
  refine (calls_true (derivParts r s t (by omega) hwr) (rdA_3 hrr (.v _) (.v _)) (hgOf hL)).mono fun e W' ⟨he, hb⟩ => ?_
  subst he
  exact ⟨_, rfl, post_true laidOut hW' hb rfl Tryd.underlying4 rfl (by
    rw [Tryd.params5]
    intro t ht
    have : t = 27 ∨ t = 9 := by simpa using ht
    rcases this with rfl | rfl
    · exact rrRe
    · exact rrStr) ⟨rfl, rfl, rfl⟩⟩
theorem derivParts_saidUpto : Rows.DerivPartsUptoSaid :=
  OpenClaim.holds_of_cond 5 Tryd.f5 rfl rfl rfl rfl rfl rfl rfl ⟨rfl, rfl, rfl, rfl, rfl⟩ rfl rfl rfl rfl rfl (by kernel_rfl) Tryd.func5 (by kernel_rfl)
    (of_decide_eq_true (by kernel_rfl)) (by unfold Func.isWrapper; first | (rw [if_pos (by decide +kernel)]; kernel_rfl) | (rw [if_neg (by decide +kernel)]; exact ⟨rfl, rfl⟩))
    (fun os started H enc _ F => by rw [OpenClaim.pre_eq_preRow]; exact derivParts_lifted os started H enc F)
theorem plain (f : FuncId) (fn : Func) (hf : Tryd.pinned.checked.prog.funcNamed "quill/quilllaw09.DerivParts" = some f) (hfn : Tryd.pinned.checked.prog.funcs[f]? = some fn) :
    true = Tryd.pinned.checked.prog.looks [] ∧ ∀ (j : Nat) t, fn.params[j]? = some t → Tryd.pinned.checked.prog.wantsStandIn t = false := by
  obtain rfl : f = 5 := Option.some.inj ((show Tryd.prog.funcNamed "quill/quilllaw09.DerivParts" = some 5 by kernel_rfl).symm.trans hf) |>.symm
  obtain rfl : fn = Tryd.f5 := (Option.some.inj (Tryd.func5.symm.trans hfn)).symm
  refine ⟨by kernel_rfl, fun j t ht => ?_⟩
  rw [Tryd.params5] at ht
  have : t = 27 ∨ t = 9 := by simpa using Array.mem_of_getElem? ht
  rcases this with rfl | rfl
  · exact (show Tryd.prog.wantsStandIn 27 = false by kernel_rfl)
  · exact (show Tryd.prog.wantsStandIn 9 = false by kernel_rfl)
theorem derivParts_card : Rows.DerivPartsUptoCardSaid :=
  Claim7.holds_tied_plain_at .later [] _ _ _ _ derivParts_saidUpto (fun _ h => by cases h) (by kernel_rfl) (fun _ h => by cases h) derivPartsUpto_row_tie rfl ⟨rfl, rfl⟩ (by kernel_rfl) rfl plain (by kernel_rfl)
end Go.Proofs.YtlejbkfefpfolaaDoor.W
