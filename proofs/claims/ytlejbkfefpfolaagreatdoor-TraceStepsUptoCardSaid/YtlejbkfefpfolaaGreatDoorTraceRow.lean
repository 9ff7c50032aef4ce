/- The lines of a trace are the ones that are defined. What is handed in counts no more than 1048576; the table is tied to the text. -/
import Derived.Test.YtlejbkfefpfolaaGreatDoorReBulk
import Derived.Test.YtlejbkfefpfolaaGreatDoorBridge
import Derived.ChangeMaps5
import Derived.JoinedCond
import Derived.Deep.DeepHandedRow
import Derived.Lib.LaidTab
import Derived.Test.YtlejbkfefpfolaaGreatDoorCards
import Derived.Test.YtlejbkfefpfolaaGreatDoorTie
set_option linter.unusedVariables false
set_option linter.unusedSimpArgs false
set_option linter.unusedSectionVars false
set_option maxRecDepth 100000
namespace Go.Proofs.YtlejbkfefpfolaaGreatDoor.W
open Go Go.Proofs Go.Proofs.YtlejbkfefpfolaaGreatDoor.AWP Go.Proofs.YtlejbkfefpfolaaGreatDoor
open Go.ChangeShapes Go.WideShapes Go.ChangeAt Go.RowKit
theorem own : ownKnob Tryz.prog.godebug = none := by kernel_rfl
theorem laidOut : laidOutB Tryz.prog = true := by kernel_rfl
theorem reT : ReT Tryz.prog 27 5 24 22 25 :=
 ⟨⟨_, _, _, Tryz.underlying27, ⟨rfl, rfl⟩, ⟨rfl, rfl⟩, ⟨rfl, rfl⟩⟩, Tryz.underlying5, Tryz.underlying24, Tryz.underlying22, Tryz.underlying25, by kernel_rfl, by kernel_rfl, by kernel_rfl, by kernel_rfl, by kernel_rfl⟩
theorem rrRe : Tryz.prog.readableRec 27 = true ∧ 27 < Tryz.prog.types.size := ⟨by kernel_rfl, of_decide_eq_true (by kernel_rfl)⟩
theorem rrStr : Tryz.prog.readableRec 9 = true ∧ 9 < Tryz.prog.types.size := ⟨by kernel_rfl, of_decide_eq_true (by kernel_rfl)⟩
theorem gTab : Tryz.prog.globalNamed "math/bits.deBruijn64tab" = some 0 := by kernel_rfl
theorem gTabType : (Tryz.prog.globals[0]?).map (·.type) = some 136 := by kernel_rfl
theorem cellsTab : Tryz.prog.cellsOf 136 = 64 := by kernel_rfl
theorem cells5 : Tryz.prog.cellsOf 5 = 1 := by kernel_rfl
theorem table {W : World} (h : laidMetH Tryz.prog Rows.traceStepsUptoRow.laid W) : Lib.TabIs Tryz.prog W "math/bits.deBruijn64tab" .u8 gbytes :=
 Lib.tabIs_of_head (rest := []) gTab gTabType Tryz.underlying136 Tryz.underlying5 cells5 cellsTab h
theorem hgOf {W : World} (h : laidMetH Tryz.prog Rows.traceStepsUptoRow.laid W) (g : Nat) (c : List D) (hc : gtab g = some c) : Rd (envAt W) (.pel c) (.pointer (some ⟨g, 0, none⟩)) := by
 have ht := table h
 have hl : gbytes.length = 64 := by decide
 unfold gtab at hc
 rw [if_neg (by decide)] at hc
 split at hc
 ·rename_i hg
  cases hc
  obtain rfl : g = 0 := hg
  have hcell := fun i hi => ht.cell gTab i hi
  refine Rd.pel_mk (cell_lt (hcell 0 (by omega))) fun j d hj => ?_
  unfold gtbl at hj
  rw [List.getElem?_map] at hj
  cases hb : gbytes[j]? with
  | none => rw [hb] at hj; cases hj
  | some z =>
   rw [hb] at hj
   cases hj
   have hjl := (List.getElem?_eq_some_iff.1 hb).1
   refine ⟨.int .u8 z, ?_, rfl, .v _⟩
   rw [add_mk, Nat.zero_add]
   show W.cell? _ = _
   rw [hcell j hjl, List.getD_eq_getElem?_getD, hb]; rfl
 ·cases hc
noncomputable def laidWorld (os : Os) : World :=
 { World.holding Tryz.prog os ⟨#[], #[], []⟩ with heap := (World.holding Tryz.prog os ⟨#[], #[], []⟩).heap.modify 0 fun
   | .cells _ t frozen => .cells (gbytes.map fun z => Value.int .u8 z).toArray t frozen
   | o => o }
abbrev wArgs : Array Value := #[.agg #[.int .u8 0, .int .u64 0, .int .u64 0, .int .u64 0, .int .u64 0, .slice none 0 0], .string ⟨#[]⟩]
theorem laid_met (os : Os) : laidMet Tryz.prog Rows.traceStepsUptoRow.laid ((laidWorld os).forCall (fun _ _ => 0) ⟨#[], wArgs, []⟩).memory :=
 laidMet_of_run' 80 (by kernel_rfl) (by kernel_rfl)
theorem reads (os : Os) {H : Type} (enc : TypeId × Value → H) : ∃ places, DataW.whole enc Tryz.prog ((laidWorld os).forCall (fun _ _ => 0) ⟨#[], wArgs, []⟩).memory Tryz.f7.params.toList Rows.traceStepsSpec.vars false wArgs.toList 8 = some ([.agg [.lit (.int .u8 0), .agg [.lit (.int .u64 0), .lit (.int .u64 0), .lit (.int .u64 0), .lit (.int .u64 0)], .nil], .lit (.string [])], [], places) :=
 ⟨[], by kernel_rfl⟩
theorem traceSteps_lifted (os : Os) (started : os.Started) (H : Type) (enc : TypeId × Value → H) (F : Stop.Interp) :
  ReturnsInHanded {} Tryz.checked os 7 .any ((Rows.OpenSpec.upto Rows.traceStepsSpec).preRow enc Tryz.prog Tryz.f7 Rows.traceStepsUptoRow.domain false Rows.traceStepsUptoRow.laid) (((Rows.OpenSpec.upto Rows.traceStepsSpec).at F).post enc Tryz.prog Tryz.f7 false true false false) := by
 obtain ⟨places, hx⟩ := reads os enc
 refine returnsInHanded_of_row (C := Tryz.checked) (s := Rows.OpenSpec.upto Rows.traceStepsSpec) own started (by kernel_rfl) Tryz.func7
  (witness_row_at (enc := enc) (C := Tryz.checked) false (laidWorld os) wArgs rfl (by kernel_rfl) (by kernel_rfl) (by kernel_rfl)
   (OpenSpec.preRow_of_cond 8 hx (by kernel_rfl) (fun k hk => by cases hk; kernel_rfl) (by kernel_rfl) (laid_met os))) ?_
 intro W base args ds gs before hval0 hW _ hcond _ hL _ _
 have hk := hcond _ rfl
 have hW' := hW
 obtain ⟨p, q, hA0, hV, rfl, hfz, hnd⟩ := hW
 have hA : DataW.TrodAll enc Tryz.prog W 0 (fun _ => true) true Tryz.f7.params.toList args.toList ds p := hA0
 rw [Tryz.params7] at hA
 obtain ⟨v0, v1, d0, d1, p0, p1, rfl, rfl, rfl, h0, h1⟩ := trodAll_two hA
 obtain ⟨rfl, rfl⟩ := trodVars_none hV
 obtain ⟨r, hrr, hbr, hwr⟩ := re_argB reT h0
 obtain ⟨s, rfl⟩ := okWide_string Tryz.underlying9 (hval0 1 9 v1 (by rw [Tryz.params7]; rfl) rfl)
 have hk' := bulk_all hk
 simp only [List.append_nil, Rows.uptoBulkAll] at hk'
 refine (calls_true (traceSteps r s (by omega) hwr) (rdA_2 hrr (.v _)) (hgOf hL)).mono fun e W' ⟨he, hb⟩ => ?_
 subst he
 exact ⟨_, rfl, post_true laidOut hW' hb rfl Tryz.underlying4 rfl (by
  rw [Tryz.params7]
  intro t ht
  have : t = 27 ∨ t = 9 := by simpa using ht
  rcases this with rfl | rfl
  ·exact rrRe
  ·exact rrStr) ⟨rfl, rfl, rfl⟩⟩
theorem traceSteps_saidUpto : Rows.TraceStepsUptoSaid :=
 OpenClaim.holds_of_cond 7 Tryz.f7 rfl rfl rfl rfl rfl rfl rfl ⟨rfl, rfl, rfl, rfl, rfl⟩ rfl rfl rfl rfl rfl (by kernel_rfl) Tryz.func7 (by kernel_rfl)
  (of_decide_eq_true (by kernel_rfl)) (by unfold Func.isWrapper; first | (rw [if_pos (by decide +kernel)]; kernel_rfl) | (rw [if_neg (by decide +kernel)]; exact ⟨rfl, rfl⟩))
  (fun os started H enc _ F => by rw [OpenClaim.pre_eq_preRow]; exact traceSteps_lifted os started H enc F)
theorem plain (f : FuncId) (fn : Func) (hf : Tryz.pinned.checked.prog.funcNamed "quill/quilllaw26.TraceSteps" = some f) (hfn : Tryz.pinned.checked.prog.funcs[f]? = some fn) :
  true = Tryz.pinned.checked.prog.looks [] ∧ ∀ (j : Nat) t, fn.params[j]? = some t → Tryz.pinned.checked.prog.wantsStandIn t = false := by
 obtain rfl : f = 7 := Option.some.inj ((show Tryz.prog.funcNamed "quill/quilllaw26.TraceSteps" = some 7 by kernel_rfl).symm.trans hf) |>.symm
 obtain rfl : fn = Tryz.f7 := (Option.some.inj (Tryz.func7.symm.trans hfn)).symm
 refine ⟨by kernel_rfl, fun j t ht => ?_⟩
 rw [Tryz.params7] at ht
 have : t = 27 ∨ t = 9 := by simpa using Array.mem_of_getElem? ht
 rcases this with rfl | rfl
 ·exact (show Tryz.prog.wantsStandIn 27 = false by kernel_rfl)
 ·exact (show Tryz.prog.wantsStandIn 9 = false by kernel_rfl)
theorem traceSteps_card : Rows.TraceStepsUptoCardSaid :=
 Claim7.holds_tied_plain_at .later [] _ _ _ _ traceSteps_saidUpto (fun _ h => by cases h) (by kernel_rfl) (fun _ h => by cases h) traceStepsUpto_row_tie rfl ⟨rfl, rfl⟩ (by kernel_rfl) rfl plain (by kernel_rfl)
end Go.Proofs.YtlejbkfefpfolaaGreatDoor.W
