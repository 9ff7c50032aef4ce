/- A hundred rules are read, and not one more. The table is tied to the text. -/
import Derived.Test.YtdliolbjngcgcaaDoorWalkB
import Derived.Test.YtdliolbjngcgcaaDoorBridgeA
import Derived.ChangeMaps5
import Derived.JoinedCond
import Derived.Deep.DeepHandedRow
import Derived.Lib.LaidTab
import Derived.Test.YtdliolbjngcgcaaDoorCards
import Derived.Test.YtdliolbjngcgcaaDoorTie
set_option linter.unusedVariables false
set_option linter.unusedSimpArgs false
set_option linter.unusedSectionVars false
set_option maxRecDepth 100000
/- A hundred rules are read, and not one more. The table is tied to the text. -/
namespace Go.Proofs.YtdliolbjngcgcaaDoor.W
open Go Go.Proofs Go.Proofs.YtdliolbjngcgcaaDoor.AWP Go.Proofs.YtdliolbjngcgcaaDoor
open Go.ChangeShapes Go.WideShapes Go.ChangeAt Go.RowKit
theorem own : ownKnob Tryd.prog.godebug = none := by kernel_rfl
theorem laidOut : laidOutB Tryd.prog = true := by kernel_rfl
theorem rrU8 : Tryd.prog.readableRec 5 = true ∧ 5 < Tryd.prog.types.size := ⟨by kernel_rfl, of_decide_eq_true (by kernel_rfl)⟩
theorem gTab : Tryd.prog.globalNamed "math/bits.deBruijn64tab" = some 1 := by kernel_rfl
theorem gTabType : (Tryd.prog.globals[1]?).map (·.type) = some 116 := by kernel_rfl
theorem cellsTab : Tryd.prog.cellsOf 116 = 64 := by kernel_rfl
theorem cells5 : Tryd.prog.cellsOf 5 = 1 := by kernel_rfl
theorem table {W : World} (h : laidMetH Tryd.prog Rows.rulesMostRow.laid W) : Lib.TabIs Tryd.prog W "math/bits.deBruijn64tab" .u8 gbytes :=
  Lib.tabIs_of_head (rest := []) gTab gTabType Tryd.underlying116 Tryd.underlying5 cells5 cellsTab h
theorem hgOf {W : World} (h : laidMetH Tryd.prog Rows.rulesMostRow.laid W) (g : Nat) (c : List D) (hc : gtab g = some c) : Rd (envAt W) (.pel c) (.pointer (some ⟨g, 0, none⟩)) := by
  have ht := table h
  have hl : gbytes.length = 64 := by decide
  have hc : gtab0 g = some c := hc
  unfold gtab0 at hc
  rw [if_neg (by decide)] at hc
  split at hc
  · rename_i hg
    cases hc
    obtain rfl : g = 1 := hg
    have hcell := fun i hi => ht.cell gTab i hi
    refine Rd.pel_mk (cell_lt (hcell 0 (by omega))) fun j d hj => ?_
    unfold gtbl at hj
    rw [List.getElem?_map] at hj
    cases hb : gbytes[j]? with
    | none => rw [hb] at hj; cases hj
    | some z =>
      rw [hb] at hj
      cases hj
      have hjl := (List.getElem?_eq_some_iff.1 hb).1
      refine ⟨.int .u8 z, ?_, rfl, .v _⟩
      rw [add_mk, Nat.zero_add]
      show W.cell? _ = _
      rw [hcell j hjl, List.getD_eq_getElem?_getD, hb]; rfl
  · cases hc
noncomputable def laidWorld (os : Os) : World :=
  { World.holding Tryd.prog os ⟨#[], #[], []⟩ with heap := (World.holding Tryd.prog os ⟨#[], #[], []⟩).heap.modify 1 fun
      | .cells _ t frozen => .cells (gbytes.map fun z => Value.int .u8 z).toArray t frozen
      | o => o }
abbrev wArgs : Array Value := #[.int .u8 0]
theorem laid_met (os : Os) : laidMet Tryd.prog Rows.rulesMostRow.laid ((laidWorld os).forCall (fun _ _ => 0) ⟨#[], wArgs, []⟩).memory :=
  laidMet_of_run' 80 (by kernel_rfl) (by kernel_rfl)
theorem reads (os : Os) {H : Type} (enc : TypeId × Value → H) : ∃ places, DataW.whole enc Tryd.prog ((laidWorld os).forCall (fun _ _ => 0) ⟨#[], wArgs, []⟩).memory Tryd.f3.params.toList Rows.rulesMostSpec.vars false wArgs.toList 8 = some ([.lit (.int .u8 0)], [], places) :=
  ⟨[], by kernel_rfl⟩
theorem rulesMost_lifted (os : Os) (started : os.Started) (H : Type) (enc : TypeId × Value → H) (F : Stop.Interp) :
    ReturnsInHanded {} Tryd.checked os 3 .any ((OpenSpec.ofChange Rows.rulesMostSpec).preRow enc Tryd.prog Tryd.f3 Rows.rulesMostRow.domain false Rows.rulesMostRow.laid) (((OpenSpec.ofChange Rows.rulesMostSpec).at F).post enc Tryd.prog Tryd.f3 false true false false) := by
  obtain ⟨places, hx⟩ := reads os enc
  refine returnsInHanded_of_row (C := Tryd.checked) (s := OpenSpec.ofChange Rows.rulesMostSpec) own started (by kernel_rfl) Tryd.func3
    (witness_row_at (enc := enc) (C := Tryd.checked) false (laidWorld os) wArgs rfl (by kernel_rfl) (by kernel_rfl) (by kernel_rfl)
      (OpenSpec.preRow_of_cond 8 hx (by kernel_rfl) (fun k hk => by cases hk) (by kernel_rfl) (laid_met os))) ?_
  intro W base args ds gs before hval0 hW _ hcond _ hL _ _
  have hW' := hW
  obtain ⟨p, q, hA0, hV, rfl, hfz, hnd⟩ := hW
  have hA : DataW.TrodAll enc Tryd.prog W 0 (fun _ => true) true Tryd.f3.params.toList args.toList ds p := hA0
  rw [Tryd.params3] at hA
  obtain ⟨v0, d0, rfl, rfl, h0⟩ := trodAll_one hA
  obtain ⟨rfl, rfl⟩ := trodVars_none hV
  obtain ⟨n, rfl, rfl, rfl, hwf⟩ := open_int Tryd.underlying5 (hval0 0 5 v0 (by rw [Tryd.params3]; rfl) rfl) h0
  have hn : 0 ≤ n ∧ n ≤ 255 := by simp only [Lit.wf, Bool.and_eq_true, decide_eq_true_eq] at hwf; exact hwf
  obtain ⟨c, rfl⟩ : ∃ k : UInt8, n = (k.toNat : Int) := ⟨UInt8.ofNat n.toNat, by rw [UInt8.toNat_ofNat']; omega⟩
  refine (calls_true (rulesMost c) (rdA_1 (.v _)) (hgOf hL)).mono fun e W' ⟨he, hb⟩ => ?_
  subst he
  exact ⟨_, rfl, post_true laidOut hW' hb rfl Tryd.underlying4 rfl (by
    rw [Tryd.params3]
    intro t ht
    have : t = 5 := by simpa using ht
    rw [this]
    exact rrU8) ⟨rfl, rfl, rfl⟩⟩
theorem rulesMost_said : Rows.RulesMostSaid :=
  OpenClaim.holds_of_cond 3 Tryd.f3 rfl rfl rfl rfl rfl rfl rfl ⟨rfl, rfl, rfl, rfl, rfl⟩ rfl rfl rfl rfl rfl (by kernel_rfl) Tryd.func3 (by kernel_rfl)
    (of_decide_eq_true (by kernel_rfl)) (by unfold Func.isWrapper; first | (rw [if_pos (by decide +kernel)]; kernel_rfl) | (rw [if_neg (by decide +kernel)]; exact ⟨rfl, rfl⟩))
    (fun os started H enc _ F => by rw [OpenClaim.pre_eq_preRow]; exact rulesMost_lifted os started H enc F)
theorem plain (f : FuncId) (fn : Func) (hf : Tryd.pinned.checked.prog.funcNamed "quill/quilllaw19.RulesMost" = some f) (hfn : Tryd.pinned.checked.prog.funcs[f]? = some fn) :
    true = Tryd.pinned.checked.prog.looks [] ∧ ∀ (j : Nat) t, fn.params[j]? = some t → Tryd.pinned.checked.prog.wantsStandIn t = false := by
  obtain rfl : f = 3 := Option.some.inj ((show Tryd.prog.funcNamed "quill/quilllaw19.RulesMost" = some 3 by kernel_rfl).symm.trans hf) |>.symm
  obtain rfl : fn = Tryd.f3 := (Option.some.inj (Tryd.func3.symm.trans hfn)).symm
  refine ⟨by kernel_rfl, fun j t ht => ?_⟩
  rw [Tryd.params3] at ht
  obtain rfl : t = 5 := by simpa using Array.mem_of_getElem? ht
  exact (show Tryd.prog.wantsStandIn 5 = false by kernel_rfl)
theorem rulesMost_card : Rows.RulesMostCardSaid :=
  Claim7.holds_tied_plain_at .later [] _ _ _ _ rulesMost_said (fun _ h => by cases h) (by kernel_rfl) (fun _ h => by cases h) rulesMost_row_tie rfl ⟨rfl, rfl⟩ (by kernel_rfl) rfl plain (by kernel_rfl)
end Go.Proofs.YtdliolbjngcgcaaDoor.W
