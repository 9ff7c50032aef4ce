/- The rules of any text, or the error and its place, are the document's; printed, and read again, they are as they are. The table is tied to the text. -/
import Derived.Test.YtdliolbjngcgcaaGreatDoorWalkB
import Derived.Test.YtdliolbjngcgcaaGreatDoorBridgeA
import Derived.ChangeMaps5
import Derived.JoinedCond
import Derived.Deep.DeepHandedRow
import Derived.Lib.LaidTab
import Derived.Test.YtdliolbjngcgcaaGreatDoorCards
import Derived.Test.YtdliolbjngcgcaaGreatDoorTie
set_option linter.unusedVariables false
set_option linter.unusedSimpArgs false
set_option linter.unusedSectionVars false
set_option maxRecDepth 100000
/- The rules of any text, or the error and its place, are the document's; printed, and read again, they are as they are. The table is tied to the text. -/
namespace Go.Proofs.YtdliolbjngcgcaaGreatDoor.W
open Go Go.Proofs Go.Proofs.YtdliolbjngcgcaaGreatDoor.AWP Go.Proofs.YtdliolbjngcgcaaGreatDoor
open Go.ChangeShapes Go.WideShapes Go.ChangeAt Go.RowKit
theorem own : ownKnob Tryz.prog.godebug = none := by kernel_rfl
theorem laidOut : laidOutB Tryz.prog = true := by kernel_rfl
theorem rrStr : Tryz.prog.readableRec 9 = true ∧ 9 < Tryz.prog.types.size := ⟨by kernel_rfl, of_decide_eq_true (by kernel_rfl)⟩
theorem gTab : Tryz.prog.globalNamed "math/bits.deBruijn64tab" = some 1 := by kernel_rfl
theorem gTabType : (Tryz.prog.globals[1]?).map (·.type) = some 139 := by kernel_rfl
theorem cellsTab : Tryz.prog.cellsOf 139 = 64 := by kernel_rfl
theorem cells5 : Tryz.prog.cellsOf 5 = 1 := by kernel_rfl
theorem table {W : World} (h : laidMetH Tryz.prog Rows.rulesReadsRow.laid W) : Lib.TabIs Tryz.prog W "math/bits.deBruijn64tab" .u8 gbytes :=
  Lib.tabIs_of_head (rest := []) gTab gTabType Tryz.underlying139 Tryz.underlying5 cells5 cellsTab h
theorem hgOf {W : World} (h : laidMetH Tryz.prog Rows.rulesReadsRow.laid W) (g : Nat) (c : List D) (hc : gtab g = some c) : Rd (envAt W) (.pel c) (.pointer (some ⟨g, 0, none⟩)) := by
  have ht := table h
  have hl : gbytes.length = 64 := by decide
  have hc : gtab0 g = some c := hc
  unfold gtab0 at hc
  rw [if_neg (by decide)] at hc
  split at hc
  · rename_i hg
    cases hc
    obtain rfl : g = 1 := hg
    have hcell := fun i hi => ht.cell gTab i hi
    refine Rd.pel_mk (cell_lt (hcell 0 (by omega))) fun j d hj => ?_
    unfold gtbl at hj
    rw [List.getElem?_map] at hj
    cases hb : gbytes[j]? with
    | none => rw [hb] at hj; cases hj
    | some z =>
      rw [hb] at hj
      cases hj
      have hjl := (List.getElem?_eq_some_iff.1 hb).1
      refine ⟨.int .u8 z, ?_, rfl, .v _⟩
      rw [add_mk, Nat.zero_add]
      show W.cell? _ = _
      rw [hcell j hjl, List.getD_eq_getElem?_getD, hb]; rfl
  · cases hc
noncomputable def laidWorld (os : Os) : World :=
  { World.holding Tryz.prog os ⟨#[], #[], []⟩ with heap := (World.holding Tryz.prog os ⟨#[], #[], []⟩).heap.modify 1 fun
      | .cells _ t frozen => .cells (gbytes.map fun z => Value.int .u8 z).toArray t frozen
      | o => o }
abbrev wArgs : Array Value := #[.string ⟨#[]⟩]
theorem laid_met (os : Os) : laidMet Tryz.prog Rows.rulesReadsRow.laid ((laidWorld os).forCall (fun _ _ => 0) ⟨#[], wArgs, []⟩).memory :=
  laidMet_of_run' 80 (by kernel_rfl) (by kernel_rfl)
theorem reads (os : Os) {H : Type} (enc : TypeId × Value → H) : ∃ places, DataW.whole enc Tryz.prog ((laidWorld os).forCall (fun _ _ => 0) ⟨#[], wArgs, []⟩).memory Tryz.f3.params.toList Rows.rulesReadsSpec.vars false wArgs.toList 8 = some ([.lit (.string [])], [], places) :=
  ⟨[], by kernel_rfl⟩
theorem rulesReads_lifted (os : Os) (started : os.Started) (H : Type) (enc : TypeId × Value → H) (F : Stop.Interp) :
    ReturnsInHanded {} Tryz.checked os 3 .any ((OpenSpec.ofChange Rows.rulesReadsSpec).preRow enc Tryz.prog Tryz.f3 Rows.rulesReadsRow.domain false Rows.rulesReadsRow.laid) (((OpenSpec.ofChange Rows.rulesReadsSpec).at F).post enc Tryz.prog Tryz.f3 false true false false) := by
  obtain ⟨places, hx⟩ := reads os enc
  refine returnsInHanded_of_row (C := Tryz.checked) (s := OpenSpec.ofChange Rows.rulesReadsSpec) own started (by kernel_rfl) Tryz.func3
    (witness_row_at (enc := enc) (C := Tryz.checked) false (laidWorld os) wArgs rfl (by kernel_rfl) (by kernel_rfl) (by kernel_rfl)
      (OpenSpec.preRow_of_cond 8 hx (by kernel_rfl) (fun k hk => by cases hk) (by kernel_rfl) (laid_met os))) ?_
  intro W base args ds gs before hval0 hW _ hcond _ hL _ _
  have hW' := hW
  obtain ⟨p, q, hA0, hV, rfl, hfz, hnd⟩ := hW
  have hA : DataW.TrodAll enc Tryz.prog W 0 (fun _ => true) true Tryz.f3.params.toList args.toList ds p := hA0
  rw [Tryz.params3] at hA
  obtain ⟨v0, d0, rfl, rfl, h0⟩ := trodAll_one hA
  obtain ⟨rfl, rfl⟩ := trodVars_none hV
  obtain ⟨s, rfl⟩ := okWide_string Tryz.underlying9 (hval0 0 9 v0 (by rw [Tryz.params3]; rfl) rfl)
  refine (calls_true (rulesReadsL s) (rdA_1 (.v _)) (hgOf hL)).mono fun e W' ⟨he, hb⟩ => ?_
  subst he
  exact ⟨_, rfl, post_true laidOut hW' hb rfl Tryz.underlying4 rfl (by
    rw [Tryz.params3]
    intro t ht
    have : t = 9 := by simpa using ht
    rw [this]
    exact rrStr) ⟨rfl, rfl, rfl⟩⟩
theorem rulesReads_said : Rows.RulesReadsSaid :=
  OpenClaim.holds_of_cond 3 Tryz.f3 rfl rfl rfl rfl rfl rfl rfl ⟨rfl, rfl, rfl, rfl, rfl⟩ rfl rfl rfl rfl rfl (by kernel_rfl) Tryz.func3 (by kernel_rfl)
    (of_decide_eq_true (by kernel_rfl)) (by unfold Func.isWrapper; first | (rw [if_pos (by decide +kernel)]; kernel_rfl) | (rw [if_neg (by decide +kernel)]; exact ⟨rfl, rfl⟩))
    (fun os started H enc _ F => by rw [OpenClaim.pre_eq_preRow]; exact rulesReads_lifted os started H enc F)
theorem plain (f : FuncId) (fn : Func) (hf : Tryz.pinned.checked.prog.funcNamed "quill/quilllaw19.RulesReads" = some f) (hfn : Tryz.pinned.checked.prog.funcs[f]? = some fn) :
    true = Tryz.pinned.checked.prog.looks [] ∧ ∀ (j : Nat) t, fn.params[j]? = some t → Tryz.pinned.checked.prog.wantsStandIn t = false := by
  obtain rfl : f = 3 := Option.some.inj ((show Tryz.prog.funcNamed "quill/quilllaw19.RulesReads" = some 3 by kernel_rfl).symm.trans hf) |>.symm
  obtain rfl : fn = Tryz.f3 := (Option.some.inj (Tryz.func3.symm.trans hfn)).symm
  refine ⟨by kernel_rfl, fun j t ht => ?_⟩
  rw [Tryz.params3] at ht
  obtain rfl : t = 9 := by simpa using Array.mem_of_getElem? ht
  exact (show Tryz.prog.wantsStandIn 9 = false by kernel_rfl)
theorem rulesReads_card : Rows.RulesReadsCardSaid :=
  Claim7.holds_tied_plain_at .later [] _ _ _ _ rulesReads_said (fun _ h => by cases h) (by kernel_rfl) (fun _ h => by cases h) rulesReads_row_tie rfl ⟨rfl, rfl⟩ (by kernel_rfl) rfl plain (by kernel_rfl)
end Go.Proofs.YtdliolbjngcgcaaGreatDoor.W
