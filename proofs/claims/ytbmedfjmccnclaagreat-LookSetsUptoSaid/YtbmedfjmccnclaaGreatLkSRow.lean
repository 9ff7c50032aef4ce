/- The row of LookSets: the first kinds and the shunned kinds of any expression in any grammar are the document`s. -/
import Derived.Test.YtbmedfjmccnclaaGreatWalkC
import Derived.Test.YtbmedfjmccnclaaGreatBridgeA
import Derived.ChangeMaps5
import Derived.JoinedCond
import Derived.HandedShaped
import Derived.Shelf.Vars
import Derived.Test.YtbmedfjmccnclaaGreatRows
set_option linter.unusedVariables false
set_option linter.unusedSimpArgs false
set_option linter.unusedSectionVars false
set_option maxRecDepth 100000
namespace Go.Proofs.YtbmedfjmccnclaaGreat.W
open Go Go.Proofs Go.Proofs.YtbmedfjmccnclaaGreat.AWP Go.Proofs.YtbmedfjmccnclaaGreat
open Go.ChangeShapes Go.WideShapes Go.ChangeAt Go.RowKit
theorem rrGr:Tryz.prog.readableRec 25=true∧25<Tryz.prog.types.size:=⟨by kernel_rfl,of_decide_eq_true (by kernel_rfl)⟩
theorem rrCf:Tryz.prog.readableRec 28=true∧28<Tryz.prog.types.size:=⟨by kernel_rfl,of_decide_eq_true (by kernel_rfl)⟩
theorem rrInt:Tryz.prog.readableRec 3=true∧3<Tryz.prog.types.size:=⟨by kernel_rfl,of_decide_eq_true (by kernel_rfl)⟩
theorem own:ownKnob Tryz.prog.godebug=none:=by kernel_rfl
theorem laidOut:laidOutB Tryz.prog=true:=by kernel_rfl
theorem hgOf {W:World} (hsh:W.ShapedOpen Tryz.prog) (g:Nat) (c:List D) (hc:gtab g=some c):Rd (envAt W) (.pel c) (.pointer (some ⟨g,0,none⟩)):=by
 have h0:g=0∧c=[.nt]:=by
  unfold gtab gint at hc
  dsimp only at hc
  split at hc
  ·rename_i h; cases hc; exact ⟨h,rfl⟩
  ·unfold gtab0 at hc; rw [if_pos (by rfl)] at hc; cases hc
 obtain ⟨rfl,rfl⟩:=h0
 obtain ⟨m,hm⟩:=cell_of_shapedOpen_int (P:=Tryz.prog) (g:=0) (t:=3) (zero:=#[.int .i64 0]) hsh (of_decide_eq_true (by kernel_rfl)) (by kernel_rfl) rfl (by kernel_rfl) (by kernel_rfl) Tryz.underlying3
 refine Rd.pel_mk (cell_lt hm) fun j d hj=>?_
 match j,hj with
 | 0,hj=>
  simp at hj
  subst hj
  exact ⟨.int .i64 m,by rw [add_mk]; exact hm,rfl,.nt m⟩
 | j+1,hj=>simp at hj
theorem lookSets_lifted (os:Os) (started:os.Started) (H:Type) (enc:TypeId × Value→H) (I:Stop.Interp) :
  ReturnsInHanded {} Tryz.checked os 3 .any ((Rows.OpenSpec.upto Rows.lookSetsSpec).pre6 enc Tryz.prog Tryz.f3 Rows.lookSetsUptoRow.domain false) (((Rows.OpenSpec.upto Rows.lookSetsSpec).at I).post enc Tryz.prog Tryz.f3 false true false false):=by
 refine returnsInHanded_of_calls (C:=Tryz.checked) own started (by kernel_rfl)
  (OpenSpec.witness (enc:=enc) (C:=Tryz.checked) (s:=Rows.OpenSpec.upto Rows.lookSetsSpec) (k:=Rows.uptoSmall) rfl false ⟨#[],#[.agg #[.slice none 0 0,.slice none 0 0],.agg #[.int .u8 0,.int .i64 0,.slice none 0 0],.int .i64 0],[]⟩ 8 (by kernel_rfl) (by kernel_rfl) (by kernel_rfl)
   (x:=([.agg [.nil,.nil],.agg [.lit (.int .u8 0),.lit (.int .i64 0),.nil],.lit (.int .i64 0)],[],[])) (by kernel_rfl) rfl (by kernel_rfl)) ?_
 intro w tape i _ hsh _ hok hpre _
 obtain ⟨_,_,_,fn',hfn',_,_,_,_,hval0⟩:=hok
 obtain rfl:fn'=Tryz.f3:=Option.some.inj (hfn'.symm.trans Tryz.func3)
 obtain ⟨ds,gs,before,hw0,hcnd,hk⟩:=(OpenSpec.pre_some (k:=Rows.uptoSmall) rfl _ _ _ _).1 hpre.1
 have hW:=DataW.Whole.of_heap (w':=w.forCall tape i) (by rfl) hw0
 generalize w.forCall tape i=W at *
 generalize i.args=args at *
 have hW':=hW
 obtain ⟨p,q,hA0,hV,rfl,hfz,hnd⟩:=hW
 have hA:DataW.TrodAll enc Tryz.prog W 0 (fun _=>true) true Tryz.f3.params.toList args.toList ds p:=hA0
 rw [Tryz.params3] at hA
 obtain ⟨v0,v1,v2,d0,d1,d2,p0,p1,p2,rfl,rfl,rfl,h0,h1,h2⟩:=trodAll_three hA
 obtain ⟨rfl,rfl⟩:=trodVars_none hV
 have hk':Rows.uptoBulkAll ([d0,d1,d2]++([]:List (DataW H)))≤1048576:=by
  unfold Rows.uptoSmall at hk
  simpa using hk
 simp only [List.append_nil,Rows.uptoBulkAll] at hk'
 have HK0:Rows.uptoBulk d0≤1048576:=by omega
 have HK1:Rows.uptoBulk d1≤1048576:=by omega
 have HK2:Rows.uptoBulk d2≤1048576:=by omega
 obtain ⟨x0,hx0,hb0⟩:=gr_argB h0
 have hz0:∀ z∈x0.defs,z.2.sz≤1099511627776:=fun z hz=>by have:=hb0 z hz; have:Rows.uptoBulk d0≤1048576:=HK0; omega
 obtain ⟨x1,hx1,hb1⟩:=cf_argB h1
 obtain ⟨x2,rfl⟩:=okWide_int Tryz.underlying3 (hval0 2 3 v2 (by rw [Tryz.params3]; rfl) rfl)
 refine (calls_true (lookSetsL x0 x1 x2 hz0 (by omega)) (rdA_3 hx0 hx1 (.v _)) (hgOf hsh)).mono fun e W' ⟨he,hb⟩=>?_
 subst he
 exact ChangeSpec.post_blind (post_true laidOut hW' hb rfl Tryz.underlying4 rfl (by
  rw [Tryz.params3]
  intro t ht
  have:t=25∨t=28∨t=3:=by simpa using ht
  rcases this with rfl | rfl | rfl
  ·exact rrGr
  ·exact rrCf
  ·exact rrInt) ⟨rfl,rfl,rfl⟩)
theorem lookSets_holds:Rows.LookSetsUptoSaid:=
 OpenClaim.holds_of_cond 3 Tryz.f3 rfl rfl rfl rfl rfl rfl rfl ⟨rfl,rfl,rfl,rfl,rfl⟩ rfl rfl rfl rfl rfl (by kernel_rfl) Tryz.func3 (by kernel_rfl)
  (of_decide_eq_true (by kernel_rfl)) (by unfold Func.isWrapper; first | (rw [if_pos (by decide +kernel)]; kernel_rfl) | (rw [if_neg (by decide +kernel)]; exact ⟨rfl,rfl⟩))
  (fun os started H enc _ I=>lookSets_lifted os started H enc I)
end Go.Proofs.YtbmedfjmccnclaaGreat.W
