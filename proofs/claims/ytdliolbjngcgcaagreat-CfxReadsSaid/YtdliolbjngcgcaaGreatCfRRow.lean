/- The grammar of any text, with any kinds, or the error and its place, is the document's. -/
import Derived.Test.YtdliolbjngcgcaaGreatWalkB
import Derived.Test.YtdliolbjngcgcaaGreatBridgeB
import Derived.Test.YtdliolbjngcgcaaGreatBridgeA
import Derived.ChangeMaps5
import Derived.HandedShaped
import Derived.Shelf.Vars
import Derived.Test.YtdliolbjngcgcaaGreatRows
set_option linter.unusedVariables false
set_option linter.unusedSimpArgs false
set_option linter.unusedSectionVars false
set_option maxRecDepth 100000
/- The grammar of any text, with any kinds, or the error and its place, is the document's. -/
namespace Go.Proofs.YtdliolbjngcgcaaGreat.W
open Go Go.Proofs Go.Proofs.YtdliolbjngcgcaaGreat.AWP Go.Proofs.YtdliolbjngcgcaaGreat
open Go.ChangeShapes Go.WideShapes Go.ChangeAt Go.RowKit
theorem own : ownKnob Tryz.prog.godebug = none := by kernel_rfl
theorem laidOut : laidOutB Tryz.prog = true := by kernel_rfl
theorem rrStr : Tryz.prog.readableRec 9 = true ∧ 9 < Tryz.prog.types.size := ⟨by kernel_rfl, of_decide_eq_true (by kernel_rfl)⟩
theorem rrStrs : Tryz.prog.readableRec 22 = true ∧ 22 < Tryz.prog.types.size := ⟨by kernel_rfl, of_decide_eq_true (by kernel_rfl)⟩
theorem cStr : Tryz.prog.cellsOf 9 = 1 := by kernel_rfl
theorem strs_arg {H : Type} {enc : TypeId × Value → H} {W : World} {sp : Nat → Bool} {hd : Bool} {v : Value} {d : DataW H} {p : List MemPlace} (hv : v.cells = #[v]) (h : DataW.Trod enc Tryz.prog W 0 sp hd 22 v d p) : ∃ l : List ByteArray, Rd (envAt W) (Strs l) v := by
  obtain ⟨n, hn⟩ := h
  rw [hv] at hn
  obtain ⟨l, y, h1, h2, h3, _⟩ := slice_read (c := fun s : ByteArray => [D.s s]) (sz := 1) Tryz.underlying22 cStr (by decide) (fun _ => rfl) (fun _ _ => True) (n := n) (fun m hm cs x hx => by
    obtain ⟨s, h, _⟩ := str_read Tryz.underlying9 hx; exact ⟨s, h, trivial⟩) hn
  simp only [List.cons.injEq, and_true] at h1
  exact ⟨l, h1 ▸ h3⟩
theorem hgOf {W : World} (hsh : W.ShapedOpen Tryz.prog) (g : Nat) (c : List D) (hc : gtab g = some c) : Rd (envAt W) (.pel c) (.pointer (some ⟨g, 0, none⟩)) := by
  have h0 : g = 0 ∧ c = [.nt] := by
    unfold gtab gint at hc
    dsimp only at hc
    split at hc
    · rename_i h; cases hc; exact ⟨h, rfl⟩
    · unfold gtab0 at hc; rw [if_pos (by rfl)] at hc; cases hc
  obtain ⟨rfl, rfl⟩ := h0
  obtain ⟨m, hm⟩ := cell_of_shapedOpen_int (P := Tryz.prog) (g := 0) (t := 3) (zero := #[.int .i64 0]) hsh (of_decide_eq_true (by kernel_rfl)) (by kernel_rfl) rfl (by kernel_rfl) (by kernel_rfl) Tryz.underlying3
  refine Rd.pel_mk (cell_lt hm) fun j d hj => ?_
  match j, hj with
  | 0, hj =>
    simp at hj
    subst hj
    exact ⟨.int .i64 m, by rw [add_mk]; exact hm, rfl, .nt m⟩
  | j + 1, hj => simp at hj
theorem cfxReads_lifted (os : Os) (started : os.Started) (H : Type) (enc : TypeId × Value → H) :
    ReturnsInHanded {} Tryz.checked os 3 .any (Rows.cfxReadsSpec.pre6 enc Tryz.prog Tryz.f3 Rows.cfxReadsRow.domain false) (Rows.cfxReadsSpec.post enc Tryz.prog Tryz.f3 false true false false) := by
  refine returnsInHanded_of_change_shaped (C := Tryz.checked) own started (by kernel_rfl) Tryz.func3
    (ChangeSpec.witness6 (enc := enc) (C := Tryz.checked) false ⟨#[], #[.string ⟨#[]⟩, .slice none 0 0], []⟩ 8 (by kernel_rfl) (by kernel_rfl) (by kernel_rfl) (by kernel_rfl)) ?_
  intro W base args ds gs before hval0 hW hcnd _ hsh _
  have hW' := hW
  obtain ⟨p, q, hA0, hV, rfl, hfz, hnd⟩ := hW
  have hA : DataW.TrodAll enc Tryz.prog W 0 (fun _ => true) true Tryz.f3.params.toList args.toList ds p := hA0
  rw [Tryz.params3] at hA
  obtain ⟨v0, v1, d0, d1, p0, p1, rfl, rfl, rfl, h0, h1⟩ := trodAll_two hA
  obtain ⟨rfl, rfl⟩ := trodVars_none hV
  obtain ⟨s, rfl⟩ := okWide_string Tryz.underlying9 (hval0 0 9 v0 (by rw [Tryz.params3]; rfl) rfl)
  obtain ⟨l, hl⟩ := strs_arg (cells_of_slice Tryz.underlying22 (hval0 1 22 v1 (by rw [Tryz.params3]; rfl) rfl)) h1
  refine (calls_true (cfxReadsL s l) (rdA_2 (.v _) hl) (hgOf hsh)).mono fun e W' ⟨he, hb⟩ => ?_
  subst he
  exact ⟨_, rfl, post_true laidOut hW' hb rfl Tryz.underlying4 rfl (by
    rw [Tryz.params3]
    intro t ht
    have : t = 9 ∨ t = 22 := by simpa using ht
    rcases this with rfl | rfl
    · exact rrStr
    · exact rrStrs) ⟨rfl, rfl, rfl⟩⟩
theorem cfxReads_holds : Rows.CfxReadsSaid :=
  OpenClaim.holds_of_wide 3 Tryz.f3 rfl rfl rfl rfl rfl rfl rfl ⟨rfl, rfl, rfl, rfl, rfl⟩ rfl rfl rfl rfl rfl (by kernel_rfl) Tryz.func3 (by kernel_rfl)
    (of_decide_eq_true (by kernel_rfl)) (by unfold Func.isWrapper; first | (rw [if_pos (by decide +kernel)]; kernel_rfl) | (rw [if_neg (by decide +kernel)]; exact ⟨rfl, rfl⟩))
    (fun os started H enc _ => cfxReads_lifted os started H enc)
end Go.Proofs.YtdliolbjngcgcaaGreat.W
