/- The row of LookSets: the first kinds and the shunned kinds of any expression in any grammar are the document`s. -/
import Derived.Test.YtbmedfjmccnclaaGreatWalkC
import Derived.Test.YtbmedfjmccnclaaGreatBridgeA
import Derived.ChangeMaps5
import Derived.JoinedCond
import Derived.HandedShaped
import Derived.Shelf.Vars
import Derived.Test.YtbmedfjmccnclaaGreatRows
set_option linter.unusedVariables false
set_option linter.unusedSimpArgs false
set_option linter.unusedSectionVars false
set_option maxRecDepth 100000
namespace Go.Proofs.YtbmedfjmccnclaaGreat.W
open Go Go.Proofs Go.Proofs.YtbmedfjmccnclaaGreat.AWP Go.Proofs.YtbmedfjmccnclaaGreat
open Go.ChangeShapes Go.WideShapes Go.ChangeAt Go.RowKit
theorem rrGr:Tryz.prog.readableRec 25=true∧25<Tryz.prog.types.size:=⟨by kernel_rfl,of_decide_eq_true (by kernel_rfl)⟩
theorem own:ownKnob Tryz.prog.godebug=none:=by kernel_rfl
theorem laidOut:laidOutB Tryz.prog=true:=by kernel_rfl
theorem hgOf {W:World} (hsh:W.ShapedOpen Tryz.prog) (g:Nat) (c:List D) (hc:gtab g=some c):Rd (envAt W) (.pel c) (.pointer (some ⟨g,0,none⟩)):=by
 have h0:g=0∧c=[.nt]:=by
  unfold gtab gint at hc
  dsimp only at hc
  split at hc
  ·rename_i h; cases hc; exact ⟨h,rfl⟩
  ·unfold gtab0 at hc; rw [if_pos (by rfl)] at hc; cases hc
 obtain ⟨rfl,rfl⟩:=h0
 obtain ⟨m,hm⟩:=cell_of_shapedOpen_int (P:=Tryz.prog) (g:=0) (t:=3) (zero:=#[.int .i64 0]) hsh (of_decide_eq_true (by kernel_rfl)) (by kernel_rfl) rfl (by kernel_rfl) (by kernel_rfl) Tryz.underlying3
 refine Rd.pel_mk (cell_lt hm) fun j d hj=>?_
 match j,hj with
 | 0,hj=>
  simp at hj
  subst hj
  exact ⟨.int .i64 m,by rw [add_mk]; exact hm,rfl,.nt m⟩
 | j+1,hj=>simp at hj
end Go.Proofs.YtbmedfjmccnclaaGreat.W
