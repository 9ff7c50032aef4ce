/- The names of rules are theirs, in order. The table is tied to the text. -/
import Derived.Test.YtdliolbjngcgcaaDoorWalkB
import Derived.Test.YtdliolbjngcgcaaDoorBridgeA
import Derived.ChangeMaps5
import Derived.JoinedCond
import Derived.Deep.DeepHandedRow
import Derived.Lib.LaidTab
import Derived.Test.YtdliolbjngcgcaaDoorCards
import Derived.Test.YtdliolbjngcgcaaDoorTie
set_option linter.unusedVariables false
set_option linter.unusedSimpArgs false
set_option linter.unusedSectionVars false
set_option maxRecDepth 100000
/- The names of rules are theirs, in order. The table is tied to the text. -/
namespace Go.Proofs.YtdliolbjngcgcaaDoor.W
open Go Go.Proofs Go.Proofs.YtdliolbjngcgcaaDoor.AWP Go.Proofs.YtdliolbjngcgcaaDoor
open Go.ChangeShapes Go.WideShapes Go.ChangeAt Go.RowKit
theorem own : ownKnob Tryd.prog.godebug = none := by kernel_rfl
theorem laidOut : laidOutB Tryd.prog = true := by kernel_rfl
theorem reT : ReT Tryd.prog 37 5 34 32 35 :=
  ⟨⟨_, _, _, Tryd.underlying37, ⟨rfl, rfl⟩, ⟨rfl, rfl⟩, ⟨rfl, rfl⟩⟩, Tryd.underlying5, Tryd.underlying34, Tryd.underlying32, Tryd.underlying35, by kernel_rfl, by kernel_rfl, by kernel_rfl, by kernel_rfl, by kernel_rfl⟩
theorem rlT : ∃ f0 f1 : Field, Tryd.prog.underlying 39 = some (.struct #[f0, f1]) ∧ (f0.type = 9 ∧ f0.offset = 0) ∧ (f1.type = 37 ∧ f1.offset = 1) :=
  ⟨_, _, Tryd.underlying39, ⟨rfl, rfl⟩, ⟨rfl, rfl⟩⟩
theorem cStr : Tryd.prog.cellsOf 9 = 1 := by kernel_rfl
theorem cRl : Tryd.prog.cellsOf 39 = 7 := by kernel_rfl
theorem rules_arg {H : Type} {enc : TypeId × Value → H} {W : World} {sp : Nat → Bool} {hd : Bool} {v : Value} {d : DataW H} {p : List MemPlace} (hv : v.cells = #[v]) (h : DataW.Trod enc Tryd.prog W 0 sp hd 23 v d p) : ∃ l : List Rl, Rd (envAt W) (Rls l) v := by
  obtain ⟨n, hn⟩ := h
  rw [hv] at hn
  obtain ⟨l, y, h1, h2, h3, _⟩ := slice_read (c := rlD) (sz := 7) Tryd.underlying23 cRl (by decide) rlD_len (fun _ _ => True) (n := n) (fun m hm cs x hx => by
    obtain ⟨s, r, _, _, hc, _⟩ := struct2_read (c := fun s : ByteArray => [D.s s]) (c' := Re.c) (k0 := 1) (k1 := 6) rlT cStr reT.cRe cRl (fun _ _ => True) (fun _ _ => True)
      (fun m hm cs x hx => by obtain ⟨s, h, _⟩ := str_read Tryd.underlying9 hx; exact ⟨s, h, trivial⟩)
      (fun m hm cs x hx => by obtain ⟨r, h⟩ := re_read reT m cs x hx; exact ⟨r, h, trivial⟩) hx
    exact ⟨(s, r), hc, trivial⟩) hn
  simp only [List.cons.injEq, and_true] at h1
  exact ⟨l, h1 ▸ h3⟩
theorem rrRl : Tryd.prog.readableRec 23 = true ∧ 23 < Tryd.prog.types.size := ⟨by kernel_rfl, of_decide_eq_true (by kernel_rfl)⟩
theorem gTab : Tryd.prog.globalNamed "math/bits.deBruijn64tab" = some 1 := by kernel_rfl
theorem gTabType : (Tryd.prog.globals[1]?).map (·.type) = some 116 := by kernel_rfl
theorem cellsTab : Tryd.prog.cellsOf 116 = 64 := by kernel_rfl
theorem cells5 : Tryd.prog.cellsOf 5 = 1 := by kernel_rfl
theorem table {W : World} (h : laidMetH Tryd.prog Rows.rulesNamesRow.laid W) : Lib.TabIs Tryd.prog W "math/bits.deBruijn64tab" .u8 gbytes :=
  Lib.tabIs_of_head (rest := []) gTab gTabType Tryd.underlying116 Tryd.underlying5 cells5 cellsTab h
theorem hgOf {W : World} (h : laidMetH Tryd.prog Rows.rulesNamesRow.laid W) (g : Nat) (c : List D) (hc : gtab g = some c) : Rd (envAt W) (.pel c) (.pointer (some ⟨g, 0, none⟩)) := by
  have ht := table h
  have hl : gbytes.length = 64 := by decide
  have hc : gtab0 g = some c := hc
  unfold gtab0 at hc
  rw [if_neg (by decide)] at hc
  split at hc
  · rename_i hg
    cases hc
    obtain rfl : g = 1 := hg
    have hcell := fun i hi => ht.cell gTab i hi
    refine Rd.pel_mk (cell_lt (hcell 0 (by omega))) fun j d hj => ?_
    unfold gtbl at hj
    rw [List.getElem?_map] at hj
    cases hb : gbytes[j]? with
    | none => rw [hb] at hj; cases hj
    | some z =>
      rw [hb] at hj
      cases hj
      have hjl := (List.getElem?_eq_some_iff.1 hb).1
      refine ⟨.int .u8 z, ?_, rfl, .v _⟩
      rw [add_mk, Nat.zero_add]
      show W.cell? _ = _
      rw [hcell j hjl, List.getD_eq_getElem?_getD, hb]; rfl
  · cases hc
noncomputable def laidWorld (os : Os) : World :=
  { World.holding Tryd.prog os ⟨#[], #[], []⟩ with heap := (World.holding Tryd.prog os ⟨#[], #[], []⟩).heap.modify 1 fun
      | .cells _ t frozen => .cells (gbytes.map fun z => Value.int .u8 z).toArray t frozen
      | o => o }
abbrev wArgs : Array Value := #[.slice none 0 0]
theorem laid_met (os : Os) : laidMet Tryd.prog Rows.rulesNamesRow.laid ((laidWorld os).forCall (fun _ _ => 0) ⟨#[], wArgs, []⟩).memory :=
  laidMet_of_run' 80 (by kernel_rfl) (by kernel_rfl)
theorem reads (os : Os) {H : Type} (enc : TypeId × Value → H) : ∃ places, DataW.whole enc Tryd.prog ((laidWorld os).forCall (fun _ _ => 0) ⟨#[], wArgs, []⟩).memory Tryd.f4.params.toList Rows.rulesNamesSpec.vars false wArgs.toList 8 = some ([.nil], [], places) :=
  ⟨[], by kernel_rfl⟩
theorem rulesNames_lifted (os : Os) (started : os.Started) (H : Type) (enc : TypeId × Value → H) (F : Stop.Interp) :
    ReturnsInHanded {} Tryd.checked os 4 .any ((OpenSpec.ofChange Rows.rulesNamesSpec).preRow enc Tryd.prog Tryd.f4 Rows.rulesNamesRow.domain false Rows.rulesNamesRow.laid) (((OpenSpec.ofChange Rows.rulesNamesSpec).at F).post enc Tryd.prog Tryd.f4 false true false false) := by
  obtain ⟨places, hx⟩ := reads os enc
  refine returnsInHanded_of_row (C := Tryd.checked) (s := OpenSpec.ofChange Rows.rulesNamesSpec) own started (by kernel_rfl) Tryd.func4
    (witness_row_at (enc := enc) (C := Tryd.checked) false (laidWorld os) wArgs rfl (by kernel_rfl) (by kernel_rfl) (by kernel_rfl)
      (OpenSpec.preRow_of_cond 8 hx (by kernel_rfl) (fun k hk => by cases hk) (by kernel_rfl) (laid_met os))) ?_
  intro W base args ds gs before hval0 hW _ hcond _ hL _ _
  have hW' := hW
  obtain ⟨p, q, hA0, hV, rfl, hfz, hnd⟩ := hW
  have hA : DataW.TrodAll enc Tryd.prog W 0 (fun _ => true) true Tryd.f4.params.toList args.toList ds p := hA0
  rw [Tryd.params4] at hA
  obtain ⟨v0, d0, rfl, rfl, h0⟩ := trodAll_one hA
  obtain ⟨rfl, rfl⟩ := trodVars_none hV
  obtain ⟨l, hrl⟩ := rules_arg (cells_of_slice Tryd.underlying23 (hval0 0 23 v0 (by rw [Tryd.params4]; rfl) rfl)) h0
  refine (calls_true (rulesNames l) (rdA_1 hrl) (hgOf hL)).mono fun e W' ⟨he, hb⟩ => ?_
  subst he
  exact ⟨_, rfl, post_true laidOut hW' hb rfl Tryd.underlying4 rfl (by
    rw [Tryd.params4]
    intro t ht
    have : t = 23 := by simpa using ht
    rw [this]
    exact rrRl) ⟨rfl, rfl, rfl⟩⟩
theorem rulesNames_said : Rows.RulesNamesSaid :=
  OpenClaim.holds_of_cond 4 Tryd.f4 rfl rfl rfl rfl rfl rfl rfl ⟨rfl, rfl, rfl, rfl, rfl⟩ rfl rfl rfl rfl rfl (by kernel_rfl) Tryd.func4 (by kernel_rfl)
    (of_decide_eq_true (by kernel_rfl)) (by unfold Func.isWrapper; first | (rw [if_pos (by decide +kernel)]; kernel_rfl) | (rw [if_neg (by decide +kernel)]; exact ⟨rfl, rfl⟩))
    (fun os started H enc _ F => by rw [OpenClaim.pre_eq_preRow]; exact rulesNames_lifted os started H enc F)
theorem plain (f : FuncId) (fn : Func) (hf : Tryd.pinned.checked.prog.funcNamed "quill/quilllaw19.RulesNames" = some f) (hfn : Tryd.pinned.checked.prog.funcs[f]? = some fn) :
    true = Tryd.pinned.checked.prog.looks [] ∧ ∀ (j : Nat) t, fn.params[j]? = some t → Tryd.pinned.checked.prog.wantsStandIn t = false := by
  obtain rfl : f = 4 := Option.some.inj ((show Tryd.prog.funcNamed "quill/quilllaw19.RulesNames" = some 4 by kernel_rfl).symm.trans hf) |>.symm
  obtain rfl : fn = Tryd.f4 := (Option.some.inj (Tryd.func4.symm.trans hfn)).symm
  refine ⟨by kernel_rfl, fun j t ht => ?_⟩
  rw [Tryd.params4] at ht
  obtain rfl : t = 23 := by simpa using Array.mem_of_getElem? ht
  exact (show Tryd.prog.wantsStandIn 23 = false by kernel_rfl)
theorem rulesNames_card : Rows.RulesNamesCardSaid :=
  Claim7.holds_tied_plain_at .later [] _ _ _ _ rulesNames_said (fun _ h => by cases h) (by kernel_rfl) (fun _ h => by cases h) rulesNames_row_tie rfl ⟨rfl, rfl⟩ (by kernel_rfl) rfl plain (by kernel_rfl)
end Go.Proofs.YtdliolbjngcgcaaDoor.W
