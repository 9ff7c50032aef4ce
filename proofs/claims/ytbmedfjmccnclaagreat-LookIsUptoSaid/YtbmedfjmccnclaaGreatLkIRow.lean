/- The row of LookIs: whether expressions in a grammar are productive, or nullable, is what the document says. -/
import Derived.Test.YtbmedfjmccnclaaGreatLkSRow
import Derived.Test.YtbmedfjmccnclaaGreatBridgeA
import Derived.ChangeMaps5
import Derived.JoinedCond
import Derived.HandedShaped
import Derived.Shelf.Vars
import Derived.Test.YtbmedfjmccnclaaGreatRows
set_option linter.unusedVariables false
set_option linter.unusedSimpArgs false
set_option linter.unusedSectionVars false
set_option maxRecDepth 100000
namespace Go.Proofs.YtbmedfjmccnclaaGreat.W
open Go Go.Proofs Go.Proofs.YtbmedfjmccnclaaGreat.AWP Go.Proofs.YtbmedfjmccnclaaGreat
open Go.ChangeShapes Go.WideShapes Go.ChangeAt Go.RowKit
theorem rrCfs:Tryz.prog.readableRec 26=true∧26<Tryz.prog.types.size:=⟨by kernel_rfl,of_decide_eq_true (by kernel_rfl)⟩
theorem lookIs_lifted (os:Os) (started:os.Started) (H:Type) (enc:TypeId × Value→H) (I:Stop.Interp) :
  ReturnsInHanded {} Tryz.checked os 5 .any ((Rows.OpenSpec.upto Rows.lookIsSpec).pre6 enc Tryz.prog Tryz.f5 Rows.lookIsUptoRow.domain false) (((Rows.OpenSpec.upto Rows.lookIsSpec).at I).post enc Tryz.prog Tryz.f5 false true false false):=by
 refine returnsInHanded_of_calls (C:=Tryz.checked) own started (by kernel_rfl)
  (OpenSpec.witness (enc:=enc) (C:=Tryz.checked) (s:=Rows.OpenSpec.upto Rows.lookIsSpec) (k:=Rows.uptoSmall) rfl false ⟨#[],#[.agg #[.slice none 0 0,.slice none 0 0],.slice none 0 0],[]⟩ 8 (by kernel_rfl) (by kernel_rfl) (by kernel_rfl)
   (x:=([.agg [.nil,.nil],.nil],[],[])) (by kernel_rfl) rfl (by kernel_rfl)) ?_
 intro w tape i _ hsh _ hok hpre _
 obtain ⟨_,_,_,fn',hfn',_,_,_,_,hval0⟩:=hok
 obtain rfl:fn'=Tryz.f5:=Option.some.inj (hfn'.symm.trans Tryz.func5)
 obtain ⟨ds,gs,before,hw0,hcnd,hk⟩:=(OpenSpec.pre_some (k:=Rows.uptoSmall) rfl _ _ _ _).1 hpre.1
 have hW:=DataW.Whole.of_heap (w':=w.forCall tape i) (by rfl) hw0
 generalize w.forCall tape i=W at *
 generalize i.args=args at *
 have hW':=hW
 obtain ⟨p,q,hA0,hV,rfl,hfz,hnd⟩:=hW
 have hA:DataW.TrodAll enc Tryz.prog W 0 (fun _=>true) true Tryz.f5.params.toList args.toList ds p:=hA0
 rw [Tryz.params5] at hA
 obtain ⟨v0,v1,d0,d1,p0,p1,rfl,rfl,rfl,h0,h1⟩:=trodAll_two hA
 obtain ⟨rfl,rfl⟩:=trodVars_none hV
 have hk':Rows.uptoBulkAll ([d0,d1]++([]:List (DataW H)))≤1048576:=by
  unfold Rows.uptoSmall at hk
  simpa using hk
 simp only [List.append_nil,Rows.uptoBulkAll] at hk'
 have HK0:Rows.uptoBulk d0≤1048576:=by omega
 have HK1:Rows.uptoBulk d1≤1048576:=by omega
 obtain ⟨x0,hx0,hb0⟩:=gr_argB h0
 have hz0:∀ z∈x0.defs,z.2.sz≤1099511627776:=fun z hz=>by have:=hb0 z hz; have:Rows.uptoBulk d0≤1048576:=HK0; omega
 obtain ⟨x1,hx1,hb1⟩:=cfs_argB (cells_of_slice Tryz.underlying26 (hval0 1 26 v1 (by rw [Tryz.params5]; rfl) rfl)) h1
 have hs1:∀ z∈x1,z.sz≤1099511627776:=fun z hz=>by have:=Cf.szs_mem hz; have:Rows.uptoBulk d1≤1048576:=HK1; omega
 refine (calls_true (lookIsL x0 x1 hz0 hs1) (rdA_2 hx0 hx1) (hgOf hsh)).mono fun e W' ⟨he,hb⟩=>?_
 subst he
 exact ChangeSpec.post_blind (post_true laidOut hW' hb rfl Tryz.underlying4 rfl (by
  rw [Tryz.params5]
  intro t ht
  have:t=25∨t=26:=by simpa using ht
  rcases this with rfl | rfl
  ·exact rrGr
  ·exact rrCfs) ⟨rfl,rfl,rfl⟩)
theorem lookIs_holds:Rows.LookIsUptoSaid:=
 OpenClaim.holds_of_cond 5 Tryz.f5 rfl rfl rfl rfl rfl rfl rfl ⟨rfl,rfl,rfl,rfl,rfl⟩ rfl rfl rfl rfl rfl (by kernel_rfl) Tryz.func5 (by kernel_rfl)
  (of_decide_eq_true (by kernel_rfl)) (by unfold Func.isWrapper; first | (rw [if_pos (by decide +kernel)]; kernel_rfl) | (rw [if_neg (by decide +kernel)]; exact ⟨rfl,rfl⟩))
  (fun os started H enc _ I=>lookIs_lifted os started H enc I)
end Go.Proofs.YtbmedfjmccnclaaGreat.W
