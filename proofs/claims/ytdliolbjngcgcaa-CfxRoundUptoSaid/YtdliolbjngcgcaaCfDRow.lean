/- Any text in round brackets, with blanks around, is read as it is alone. -/
import Derived.Test.YtdliolbjngcgcaaWalkB
import Derived.Test.YtdliolbjngcgcaaBridgeA
import Derived.ChangeMaps5
import Derived.JoinedCond
import Derived.HandedShaped
import Derived.Shelf.Vars
import Derived.Test.YtdliolbjngcgcaaRows
set_option linter.unusedVariables false
set_option linter.unusedSimpArgs false
set_option linter.unusedSectionVars false
set_option maxRecDepth 100000
/- Any text in round brackets, with blanks around, is read as it is alone. -/
namespace Go.Proofs.Ytdliolbjngcgcaa.W
open Go Go.Proofs Go.Proofs.Ytdliolbjngcgcaa.AWP Go.Proofs.Ytdliolbjngcgcaa
open Go.ChangeShapes Go.WideShapes Go.ChangeAt Go.RowKit
theorem rrGr : Try.prog.readableRec 25 = true ∧ 25 < Try.prog.types.size := ⟨by kernel_rfl, of_decide_eq_true (by kernel_rfl)⟩
theorem rrStr : Try.prog.readableRec 9 = true ∧ 9 < Try.prog.types.size := ⟨by kernel_rfl, of_decide_eq_true (by kernel_rfl)⟩
theorem own : ownKnob Try.prog.godebug = none := by kernel_rfl
theorem laidOut : laidOutB Try.prog = true := by kernel_rfl
theorem hgOf {W : World} (hsh : W.ShapedOpen Try.prog) (g : Nat) (c : List D) (hc : gtab g = some c) : Rd (envAt W) (.pel c) (.pointer (some ⟨g, 0, none⟩)) := by
  have h0 : g = 0 ∧ c = [.nt] := by
    unfold gtab gint at hc
    dsimp only at hc
    split at hc
    · rename_i h; cases hc; exact ⟨h, rfl⟩
    · unfold gtab0 at hc; rw [if_pos (by rfl)] at hc; cases hc
  obtain ⟨rfl, rfl⟩ := h0
  obtain ⟨m, hm⟩ := cell_of_shapedOpen_int (P := Try.prog) (g := 0) (t := 3) (zero := #[.int .i64 0]) hsh (of_decide_eq_true (by kernel_rfl)) (by kernel_rfl) rfl (by kernel_rfl) (by kernel_rfl) Try.underlying3
  refine Rd.pel_mk (cell_lt hm) fun j d hj => ?_
  match j, hj with
  | 0, hj =>
    simp at hj
    subst hj
    exact ⟨.int .i64 m, by rw [add_mk]; exact hm, rfl, .nt m⟩
  | j + 1, hj => simp at hj
theorem cfxRound_lifted (os : Os) (started : os.Started) (H : Type) (enc : TypeId × Value → H) (I : Stop.Interp) :
    ReturnsInHanded {} Try.checked os 3 .any ((Rows.OpenSpec.upto Rows.cfxRoundSpec).pre6 enc Try.prog Try.f3 Rows.cfxRoundUptoRow.domain false) (((Rows.OpenSpec.upto Rows.cfxRoundSpec).at I).post enc Try.prog Try.f3 false true false false) := by
  refine returnsInHanded_of_calls (C := Try.checked) own started (by kernel_rfl)
    (OpenSpec.witness (enc := enc) (C := Try.checked) (s := Rows.OpenSpec.upto Rows.cfxRoundSpec) (k := Rows.uptoSmall) rfl false ⟨#[], #[.agg #[.slice none 0 0, .slice none 0 0], .string ⟨#[]⟩], []⟩ 8 (by kernel_rfl) (by kernel_rfl) (by kernel_rfl)
      (x := ([.agg [.nil, .nil], .lit (.string [])], [], [])) (by kernel_rfl) rfl (by kernel_rfl)) ?_
  intro w tape i _ hsh _ hok hpre _
  obtain ⟨_, _, _, fn', hfn', _, _, _, _, hval0⟩ := hok
  obtain rfl : fn' = Try.f3 := Option.some.inj (hfn'.symm.trans Try.func3)
  obtain ⟨ds, gs, before, hw0, hcnd, hk⟩ := (OpenSpec.pre_some (k := Rows.uptoSmall) rfl _ _ _ _).1 hpre.1
  have hW := DataW.Whole.of_heap (w' := w.forCall tape i) (by rfl) hw0
  generalize w.forCall tape i = W at *
  generalize i.args = args at *
  have hW' := hW
  obtain ⟨p, q, hA0, hV, rfl, hfz, hnd⟩ := hW
  have hA : DataW.TrodAll enc Try.prog W 0 (fun _ => true) true Try.f3.params.toList args.toList ds p := hA0
  rw [Try.params3] at hA
  obtain ⟨v0, v1, d0, d1, p0, p1, rfl, rfl, rfl, h0, h1⟩ := trodAll_two hA
  obtain ⟨rfl, rfl⟩ := trodVars_none hV
  have hk' : Rows.uptoBulkAll ([d0, d1] ++ ([] : List (DataW H))) ≤ 1048576 := by
    unfold Rows.uptoSmall at hk
    simpa using hk
  simp only [List.append_nil, Rows.uptoBulkAll] at hk'
  have HK0 : Rows.uptoBulk d0 ≤ 1048576 := by omega
  have HK1 : Rows.uptoBulk d1 ≤ 1048576 := by omega
  obtain ⟨x0, hx0, hb0⟩ := gr_argB h0
  have hz0 : ∀ z ∈ x0.defs, z.2.sz ≤ 1099511627776 := fun z hz => by have := hb0 z hz; have : Rows.uptoBulk d0 ≤ 1048576 := HK0; omega
  obtain ⟨x1, rfl⟩ := okWide_string Try.underlying9 (hval0 1 9 v1 (by rw [Try.params3]; rfl) rfl)
  refine (calls_true (cfxRoundL x0 x1 hz0) (rdA_2 hx0 (.v _)) (hgOf hsh)).mono fun e W' ⟨he, hb⟩ => ?_
  subst he
  exact ChangeSpec.post_blind (post_true laidOut hW' hb rfl Try.underlying4 rfl (by
    rw [Try.params3]
    intro t ht
    have : t = 25 ∨ t = 9 := by simpa using ht
    rcases this with rfl | rfl
    · exact rrGr
    · exact rrStr) ⟨rfl, rfl, rfl⟩)
theorem cfxRound_holds : Rows.CfxRoundUptoSaid :=
  OpenClaim.holds_of_cond 3 Try.f3 rfl rfl rfl rfl rfl rfl rfl ⟨rfl, rfl, rfl, rfl, rfl⟩ rfl rfl rfl rfl rfl (by kernel_rfl) Try.func3 (by kernel_rfl)
    (of_decide_eq_true (by kernel_rfl)) (by unfold Func.isWrapper; first | (rw [if_pos (by decide +kernel)]; kernel_rfl) | (rw [if_neg (by decide +kernel)]; exact ⟨rfl, rfl⟩))
    (fun os started H enc _ I => cfxRound_lifted os started H enc I)
end Go.Proofs.Ytdliolbjngcgcaa.W
