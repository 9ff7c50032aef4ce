/- The first bytes of any expression, and the first one of its shortest texts, are the document's; what is handed in counts no more than 1048576; the table is tied to the text. -/
import Derived.Test.YtfpfcokhnddddaaDoorReBulk
import Derived.Test.YtfpfcokhnddddaaDoorBridge
import Derived.ChangeMaps5
import Derived.JoinedCond
import Derived.Deep.DeepHandedRow
import Derived.Lib.LaidTab
import Derived.Test.YtfpfcokhnddddaaDoorCards
import Derived.Test.YtfpfcokhnddddaaDoorTie
set_option linter.unusedVariables false
set_option linter.unusedSimpArgs false
set_option linter.unusedSectionVars false
set_option maxRecDepth 100000
/- The first bytes of any expression, and the first one of its shortest texts, are the document's; what is handed in counts no more than 1048576; the table is tied to the text. -/
namespace Go.Proofs.YtfpfcokhnddddaaDoor.W
open Go Go.Proofs Go.Proofs.YtfpfcokhnddddaaDoor.AWP Go.Proofs.YtfpfcokhnddddaaDoor
open Go.ChangeShapes Go.WideShapes Go.ChangeAt Go.RowKit

theorem own : ownKnob Tryd.prog.godebug = none := by kernel_rfl
theorem laidOut : laidOutB Tryd.prog = true := by kernel_rfl
theorem reT : ReT Tryd.prog 27 5 24 22 25 :=
  ⟨⟨_, _, _, Tryd.underlying27, ⟨rfl, rfl⟩, ⟨rfl, rfl⟩, ⟨rfl, rfl⟩⟩, Tryd.underlying5, Tryd.underlying24, Tryd.underlying22, Tryd.underlying25, by kernel_rfl, by kernel_rfl, by kernel_rfl, by kernel_rfl, by kernel_rfl⟩
theorem rrRe : Tryd.prog.readableRec 27 = true ∧ 27 < Tryd.prog.types.size := ⟨by kernel_rfl, of_decide_eq_true (by kernel_rfl)⟩
theorem gTab : Tryd.prog.globalNamed "math/bits.deBruijn64tab" = some 0 := by kernel_rfl
theorem gTabType : (Tryd.prog.globals[0]?).map (·.type) = some 113 := by kernel_rfl
theorem cells113 : Tryd.prog.cellsOf 113 = 64 := by kernel_rfl
theorem cells5 : Tryd.prog.cellsOf 5 = 1 := by kernel_rfl
theorem table {W : World} (h : laidMetH Tryd.prog Rows.nullFirstUptoRow.laid W) : Lib.TabIs Tryd.prog W "math/bits.deBruijn64tab" .u8 gbytes :=
  Lib.tabIs_of_head (rest := []) gTab gTabType Tryd.underlying113 Tryd.underlying5 cells5 cells113 h
theorem hgOf {W : World} (h : laidMetH Tryd.prog Rows.nullFirstUptoRow.laid W) (g : Nat) (c : List D) (hc : gtab g = some c) : Rd (envAt W) (.pel c) (.pointer (some ⟨g, 0, none⟩)) := by
  have ht := table h
  have hl : gbytes.length = 64 := by decide
  unfold gtab at hc
  rw [if_neg (by decide)] at hc
  split at hc
  · rename_i hg
    cases hc
    obtain rfl : g = 0 := hg
    have hcell := fun i hi => ht.cell gTab i hi
    refine Rd.pel_mk (cell_lt (hcell 0 (by omega))) fun j d hj => ?_
    unfold gtbl at hj
    rw [List.getElem?_map] at hj
    cases hb : gbytes[j]? with
    | none => rw [hb] at hj; cases hj
    | some z =>
      rw [hb] at hj
      cases hj
      have hjl := (List.getElem?_eq_some_iff.1 hb).1
      refine ⟨.int .u8 z, ?_, rfl, .v _⟩
      rw [add_mk, Nat.zero_add]
      show W.cell? _ = _
      rw [hcell j hjl, List.getD_eq_getElem?_getD, hb]; rfl
  · cases hc

noncomputable def laidWorld (os : Os) : World :=
  { World.holding Tryd.prog os ⟨#[], #[], []⟩ with heap := (World.holding Tryd.prog os ⟨#[], #[], []⟩).heap.modify 0 fun
      | .cells _ t frozen => .cells (gbytes.map fun z => Value.int .u8 z).toArray t frozen
      | o => o }
abbrev wArg : Value := .agg #[.int .u8 0, .int .u64 0, .int .u64 0, .int .u64 0, .int .u64 0, .slice none 0 0]
theorem laid_met (os : Os) : laidMet Tryd.prog Rows.nullFirstUptoRow.laid ((laidWorld os).forCall (fun _ _ => 0) ⟨#[], #[wArg], []⟩).memory :=
  laidMet_of_run' 80 (by kernel_rfl) (by kernel_rfl)
theorem reads (os : Os) {H : Type} (enc : TypeId × Value → H) : ∃ places, DataW.whole enc Tryd.prog ((laidWorld os).forCall (fun _ _ => 0) ⟨#[], #[wArg], []⟩).memory Tryd.f3.params.toList Rows.nullFirstSpec.vars false #[wArg].toList 8 = some ([.agg [.lit (.int .u8 0), .agg [.lit (.int .u64 0), .lit (.int .u64 0), .lit (.int .u64 0), .lit (.int .u64 0)], .nil]], [], places) :=
  ⟨[], by kernel_rfl⟩
theorem nullFirst_lifted (os : Os) (started : os.Started) (H : Type) (enc : TypeId × Value → H) (F : Stop.Interp) :
    ReturnsInHanded {} Tryd.checked os 3 .any ((Rows.OpenSpec.upto Rows.nullFirstSpec).preRow enc Tryd.prog Tryd.f3 Rows.nullFirstUptoRow.domain false Rows.nullFirstUptoRow.laid) (((Rows.OpenSpec.upto Rows.nullFirstSpec).at F).post enc Tryd.prog Tryd.f3 false true false false) := by
  obtain ⟨places, hx⟩ := reads os enc
  refine returnsInHanded_of_row (C := Tryd.checked) (s := Rows.OpenSpec.upto Rows.nullFirstSpec) own started (by kernel_rfl) Tryd.func3
    (witness_row_at (enc := enc) (C := Tryd.checked) false (laidWorld os) #[wArg] rfl (by kernel_rfl) (by kernel_rfl) (by kernel_rfl)
      (OpenSpec.preRow_of_cond 8 hx (by kernel_rfl) (fun k hk => by cases hk; kernel_rfl) (by kernel_rfl) (laid_met os))) ?_
  intro W base args ds gs before hval hW _ hcond _ hL _ _
  have hk := hcond _ rfl
  have hW' := hW
  obtain ⟨p, q, hA0, hV, rfl, hfz, hnd⟩ := hW
  have hA : DataW.TrodAll enc Tryd.prog W 0 (fun _ => true) true Tryd.f3.params.toList args.toList ds p := hA0
  rw [Tryd.params3] at hA
  obtain ⟨v0, d0, rfl, rfl, h0⟩ := trodAll_one hA
  obtain ⟨rfl, rfl⟩ := trodVars_none hV
  obtain ⟨r, hr, hbr, hwr⟩ := re_argB reT h0
  have hk' := bulk_all hk
  simp only [List.append_nil, Rows.uptoBulkAll] at hk'
  refine (calls_true (nullFirstL r (by omega) hwr) (rdA_1 hr) (hgOf hL)).mono fun e W' ⟨he, hb⟩ => ?_
  subst he
  exact ⟨_, rfl, post_true laidOut hW' hb rfl Tryd.underlying4 rfl (by
    rw [Tryd.params3]
    intro t ht
    have : t = 27 := by simpa using ht
    rw [this]
    exact rrRe) ⟨rfl, rfl, rfl⟩⟩
theorem nullFirst_saidUpto : Rows.NullFirstUptoSaid :=
  OpenClaim.holds_of_cond 3 Tryd.f3 rfl rfl rfl rfl rfl rfl rfl ⟨rfl, rfl, rfl, rfl, rfl⟩ rfl rfl rfl rfl rfl (by kernel_rfl) Tryd.func3 (by kernel_rfl)
    (of_decide_eq_true (by kernel_rfl)) (by unfold Func.isWrapper; first | (rw [if_pos (by decide +kernel)]; kernel_rfl) | (rw [if_neg (by decide +kernel)]; exact ⟨rfl, rfl⟩))
    (fun os started H enc _ F => by rw [OpenClaim.pre_eq_preRow]; exact nullFirst_lifted os started H enc F)
theorem plain (f : FuncId) (fn : Func) (hf : Tryd.pinned.checked.prog.funcNamed "quill/quilllaw07.NullFirst" = some f) (hfn : Tryd.pinned.checked.prog.funcs[f]? = some fn) :
    true = Tryd.pinned.checked.prog.looks [] ∧ ∀ (j : Nat) t, fn.params[j]? = some t → Tryd.pinned.checked.prog.wantsStandIn t = false := by
  obtain rfl : f = 3 := Option.some.inj ((show Tryd.prog.funcNamed "quill/quilllaw07.NullFirst" = some 3 by kernel_rfl).symm.trans hf) |>.symm
  obtain rfl : fn = Tryd.f3 := (Option.some.inj (Tryd.func3.symm.trans hfn)).symm
  refine ⟨by kernel_rfl, fun j t ht => ?_⟩
  rw [Tryd.params3] at ht
  obtain rfl : t = 27 := by simpa using Array.mem_of_getElem? ht
  exact (show Tryd.prog.wantsStandIn 27 = false by kernel_rfl)
theorem nullFirst_card : Rows.NullFirstUptoCardSaid :=
  Claim7.holds_tied_plain_at .later [] _ _ _ _ nullFirst_saidUpto (fun _ h => by cases h) (by kernel_rfl) (fun _ h => by cases h) nullFirstUpto_row_tie rfl ⟨rfl, rfl⟩ (by kernel_rfl) rfl plain (by kernel_rfl)
end Go.Proofs.YtfpfcokhnddddaaDoor.W
