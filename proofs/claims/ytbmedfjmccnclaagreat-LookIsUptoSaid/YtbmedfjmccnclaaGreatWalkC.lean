/- Lists of expressions as arguments, with their bulk. -/
import Derived.Test.YtbmedfjmccnclaaGreatWalkB
import Derived.Test.YtbmedfjmccnclaaGreatLkIx
import Derived.Test.YtbmedfjmccnclaaGreatLogicE
import Derived.Test.YtbmedfjmccnclaaGreatLogicD
import Derived.Test.YtbmedfjmccnclaaGreatMathC
import Derived.Test.YtbmedfjmccnclaaGreatBridgeA
import Derived.ChangeMaps5
import Derived.JoinedCond
import Derived.HandedShaped
import Derived.Shelf.Vars
import Derived.Test.YtbmedfjmccnclaaGreatRows
set_option linter.unusedVariables false
set_option linter.unusedSimpArgs false
set_option linter.unusedSectionVars false
set_option maxRecDepth 100000
namespace Go.Proofs.YtbmedfjmccnclaaGreat.W
open Go Go.Proofs Go.Proofs.YtbmedfjmccnclaaGreat.AWP
open Int renaming reduceEq→iEq,reduceLE→iLE,reduceLT→iLT,reduceToNat→iTN
open List renaming length_map→lMp
open _root_.List renaming not_mem_nil → za, mem_cons → zb
open _root_.Bool renaming not_false → zc, not_true → zd
attribute [local irreducible] xl hide aop aops aopQ qops guardP condP
abbrev lkP (g:Gr):List Bool:=liveR false g.defs
abbrev lkN (g:Gr):List Bool:=liveR true g.defs
abbrev lkF (g:Gr):List (List Bool):=fstR (lkP g) (lkN g) g.kinds.length g.defs
abbrev lkSh (g:Gr):List (List Bool):=shnR (lkP g) (lkN g) g.kinds.length (lkF g) g.defs
abbrev lkC0 (g:Gr):List D:=[Strs g.kinds,Defs g.defs,.v (.int .u32 0),.v (.int .i32 0),.v (.int .u32 0),nilS,nilS,nilS,nilS]
abbrev lkC1 (g:Gr):List D:=[Strs g.kinds,Defs g.defs,.v (.int .u32 1),.v (.int .i32 0),.v (.int .u32 0),Bs (lkP g),Bs (lkN g),Rws (lkF g),Rws (lkSh g)]
abbrev lkA (g:Gr):Ob:=.alt 88 [lkC0 g,lkC1 g]
abbrev lk1 (g:Gr):Ob:=.var 88 (lkC1 g)
theorem lkC_bl (g:Gr):∀ c∈[lkC0 g,lkC1 g],∀ d∈c,Bl 0 d:=by
 intro c hc d hd
 simp only [zb,za,or_false] at hc
 rcases hc with rfl | rfl
 ·simp only [zb,za,or_false] at hd
  rcases hd with rfl | rfl | rfl | rfl | rfl | rfl | rfl | rfl | rfl
  ·exact Strs_bl _
  ·exact Defs_bl _
  all_goals exact .v _
 ·simp only [zb,za,or_false] at hd
  rcases hd with rfl | rfl | rfl | rfl | rfl | rfl | rfl | rfl | rfl
  ·exact Strs_bl _
  ·exact Defs_bl _
  ·exact .v _
  ·exact .v _
  ·exact .v _
  ·exact Bs_bl _
  ·exact Bs_bl _
  ·exact Rws_bl _
  ·exact Rws_bl _
set_option maxHeartbeats 4000000 in
theorem ofC (g:Gr) (hg:GFit g):AC Tryz.prog 15 [.agg g.c] [] (fun o om=>(mayG g=false∧o=.ret (.tup [.v (.pointer none),.i 1])∧om=[])∨(mayG g=true∧o=.ret (.tup [.ref 0 0,.i 0])∧om=[lkA g])):=by
 have h:AC Tryz.prog 15 [.agg g.c] [] (fun o om=>(mayG g=false∧o=.ret (.tup [.v (.pointer none),.i 1])∧om=[])∨(mayG g=true∧o=.ret (.tup [.ref 0 0,.i 0])∧om=[.var 88 (lkC0 g)])):=by
  generalize hX:(fun (o:Out) (om:List Ob)=>(mayG g=false∧o=.ret (.tup [.v (.pointer none),.i 1])∧om=[])∨(mayG g=true∧o=.ret (.tup [.ref 0 0,.i 0])∧om=[.var 88 (lkC0 g)]))=X
  refine AC.lbody hT hm Tryz.func15 f15_nm f15_lc f15_res f15_nt ?_
  simp only [go_sem,iEq,iLE,iLT,iTN,gr_take,gr_c_len,lMp]
  have hM:=cMayS [g] (by simp) (fun x hx=>by rw [List.mem_singleton.1 hx]; exact hg)
  refine hM.pv ⟨.same (Grs_bl [g]),trivial⟩ ?_
  have e:[g].all mayG=mayG g:=by simp
  rw [e]
  cases hm:mayG g with
  | false=>
   simp only [go_sem,iEq,iLE,iLT,iTN,zc]
   exact Fin.nil (d':=.tup [.v (.pointer none),.i 1]) (.tupL ⟨.v,.v,trivial⟩) (by rw [← hX]; exact .inl ⟨hm,rfl,rfl⟩)
  | true=>
  simp only [go_sem,iEq,iLE,iLT,iTN,zd,gr_take,gr_c_len,lMp]
  refine (cloneC g hm).pd ⟨.same (Gr.d_bl g),trivial⟩ (Gr.d_bl g) ?_
  simp only [go_sem,iEq,iLE,iLT,iTN,gr_take,gr_c_len,lMp]
  exact fun E0 E e _ hx hR ho=>⟨E,_,_,by rw [← hX]; exact .inr ⟨hm,rfl,rfl⟩,rfl,hx,hR,ho⟩
 refine h.toAlt ?_
 rintro o om (⟨h1,rfl,rfl⟩ | ⟨h1,rfl,rfl⟩)
 ·exact .inl (.inl ⟨h1,rfl,rfl⟩)
 ·exact .inr ⟨_,lkC0 g,[lkC0 g,lkC1 g],[],rfl,by simp,lkC_bl g _ (by simp),.inr ⟨h1,rfl,rfl⟩⟩
def knB (g:Gr) (l:List Cf):Bool:=!l.isEmpty && l.all fun c=>c.may g.kinds.length g.defs.length && decide (c.sz≤2000)
set_option maxHeartbeats 4000000 in
theorem knownC (g:Gr) (hg:mayG g=true) (l:List Cf) (hl:l.length≤1000000) (hc:∀ c∈l,c.sz≤1099511627776) {c0:List D} (h0:c0∈[lkC0 g,lkC1 g]):AC Tryz.prog 48 [.ref 0 0,Cfs l] [.var 88 c0] (fun o om=>o=.ret (if knB g l=true then .ref 0 5 else .v (.pointer none))∧om=[.var 88 (if knB g l=true then lkC1 g else c0)]):=by
 obtain ⟨m1,m2,m3,m4,m5,m6,m7,m8⟩:=mayG_facts hg
 have hF:=cFitsL g l (GFit_may hg) hl hc
 rw [hg,Bool.true_and] at hF
 have hq:∀ om (F:Nat→Bool) (kk:List (Option Nat)),Cv om F kk (Cfs l) (Cfs l):=fun om F kk=>.same (.sl (Cf.cs_bl l))
 have hdo:=doFirst (o3:=0) (fun d hd=>(m2 d hd).2) (by omega) (by omega)
 unfold knB
 refine AC.lbody hT hm Tryz.func48 f48_nm f48_lc f48_res f48_nt ?_
 simp only [zb,za,or_false] at h0
 cases hl0:l.isEmpty with
 | true=>
  have hle:l=[]:=List.isEmpty_iff.1 hl0
  subst hle
  have hz:(((0:Nat):Int) == 0)=true:=rfl
  rcases h0 with rfl | rfl
  all_goals
   simp only [go_sem,iEq,iLE,iLT,iTN,Cf.cs_eq,List.map_nil,hz]
   exact fun E0 E e _ hx hR ho=>⟨E,_,_,⟨rfl,rfl⟩,rfl,hx,hR,ho⟩
 | false=>
 have hz:(((l.length:Nat):Int) == 0)=false:=by
  simp only [beq_eq_false_iff_ne]
  intro h
  have:l=[]:=List.eq_nil_of_length_eq_zero (by omega)
  rw [this] at hl0; cases hl0
 have hgc:List.take 2 (lkC0 g)=g.c:=rfl
 have hgc1:List.take 2 (lkC1 g)=g.c:=rfl
 rcases h0 with rfl | rfl
 ·simp only [go_sem,iEq,iLE,iLT,iTN,Cf.cs_eq,lMp,hz,gr_c_len]
  refine hF.pv ⟨.same (Gr.d_bl g),.same (Cfs_bl' l),trivial⟩ ?_
  cases hall:l.all fun c=>c.may g.kinds.length g.defs.length && decide (c.sz≤2000) with
  | false=>
   simp only [go_sem,iEq,iLE,iLT,iTN,zc]
   exact fun E0 E e _ hx hR ho=>⟨E,_,_,⟨rfl,rfl⟩,rfl,hx,hR,ho⟩
  | true=>
   simp only [go_sem,iEq,iLE,iLT,iTN,zd]
   refine ⟨_,hdo,?_⟩
   rintro _ _ ⟨rfl,rfl⟩
   simp only [go_sem,iEq,iLE,iLT,iTN]
   exact fun E0 E e _ hx hR ho=>⟨E,_,_,⟨rfl,rfl⟩,rfl,hx,hR,ho⟩
 ·simp only [go_sem,iEq,iLE,iLT,iTN,Cf.cs_eq,lMp,hz,gr_c_len]
  refine hF.pv ⟨.same (Gr.d_bl g),.same (Cfs_bl' l),trivial⟩ ?_
  cases hall:l.all fun c=>c.may g.kinds.length g.defs.length && decide (c.sz≤2000) with
  | false=>
   simp only [go_sem,iEq,iLE,iLT,iTN,zc]
   exact fun E0 E e _ hx hR ho=>⟨E,_,_,⟨rfl,rfl⟩,rfl,hx,hR,ho⟩
  | true=>
   simp only [go_sem,iEq,iLE,iLT,iTN,zd]
   refine ⟨_,doAgain (o1:=1) (by omega),?_⟩
   rintro _ _ ⟨rfl,rfl⟩
   simp only [go_sem,iEq,iLE,iLT,iTN]
   exact fun E0 E e _ hx hR ho=>⟨E,_,_,⟨rfl,rfl⟩,rfl,hx,hR,ho⟩
theorem knB_all {g:Gr} {l:List Cf} (h:knB g l=true):∀ c∈l,c.may g.kinds.length g.defs.length=true:=by
 intro c hc
 unfold knB at h
 rw [Bool.and_eq_true] at h
 have:=List.all_eq_true.1 h.2 c hc
 rw [Bool.and_eq_true] at this
 exact this.1
theorem knB_one {g:Gr} {c:Cf} (h:knB g [c]=true):c.may g.kinds.length g.defs.length=true:=knB_all h c (by simp)
theorem lkShift {f:FuncId} {ds:List D} {d:D} {g:Gr} (h:AC Tryz.prog f (.ref 0 0 :: ds) [lkA g] (fun o om=>o=.ret d∧om=[lkA g])) (hds:∀ d∈ds,Bl 0 d) (hd:Bl 0 d) (fr bk:List Ob):AC Tryz.prog f (.ref fr.length 0 :: ds) (fr++[lkA g]++bk) (retP d (fr++[lkA g]++bk)):=by
 refine (h.shiftM (fr:=fr) (bk:=bk) (ds':=.ref fr.length 0 :: ds) rfl ?_ ?_ ?_ ?_).mono ?_
 ·intro j d d' h1 h2
  match j with
  | 0=>cases h1; cases h2; exact .inr ⟨0,0,rfl,rfl⟩
  | j+1=>
   have e:d'=d:=Option.some.inj ((show ds[j]? = some d' from h2).symm.trans h1)
   exact .inl ⟨hds d (List.mem_of_getElem? (show ds[j]? = some d from h1)),e⟩
 ·intro j k off h
  match j with
  | 0=>cases h; exact Nat.zero_lt_one
  | j+1=>
   have:=hds _ (List.mem_of_getElem? (show ds[j]? = some (.ref k off) from h))
   cases this; omega
 ·intro o ho
  rw [List.mem_singleton.1 ho]
  exact lkC_bl g
 ·rintro o om' ⟨rfl,rfl⟩
  refine ⟨rfl,hd,fun x hx=>?_⟩
  rw [List.mem_singleton.1 hx]
  exact lkC_bl g
 ·rintro o om ⟨_,⟨rfl,rfl⟩,rfl⟩
  exact ⟨rfl,rfl⟩
def firstL (g:Gr) (c:Cf):List Nat:=if knB g [c]=true then lstI 0 (c.fst (lkP g) (lkN g) g.kinds.length (lkF g)) else []
def shunL (g:Gr) (c:Cf):List Nat:=if knB g [c]=true then lstI 0 (c.shn (lkP g) (lkN g) g.kinds.length (lkF g) (lkSh g)) else []
def prodL (g:Gr) (l:List Cf):Bool:=knB g l && l.all fun c=>c.live false (lkP g)
def nullL (g:Gr) (l:List Cf):Bool:=knB g l && l.all fun c=>c.live true (lkN g)
set_option maxHeartbeats 4000000 in
theorem firstC0 (g:Gr) (hg:mayG g=true) (c:Cf) (hc:c.sz≤1099511627776) {c0:List D} (h0:c0∈[lkC0 g,lkC1 g]):AC Tryz.prog 18 [.ref 0 0,.agg c.c] [.var 88 c0] (fun o om=>o=.ret (Ins (firstL g c))∧∃ c'∈[lkC0 g,lkC1 g],om=[.var 88 c']):=by
 obtain ⟨m1,m2,m3,m4,m5,m6,m7,m8⟩:=mayG_facts hg
 have hK:=knownC g hg [c] (by simp) (fun x hx=>by rw [List.mem_singleton.1 hx]; exact hc) h0
 have e1:Cfs [c]=.sl 3 [c.c]:=by show D.sl 3 (Cf.cs [c])=_; rw [Cf.cs_eq]; rfl
 rw [e1] at hK
 unfold firstL
 refine AC.lbody hT hm Tryz.func18 f18_nm f18_lc f18_res f18_nt ?_
 simp only [go_sem,iEq,iLE,iLT,iTN,Cf.c_take]
 refine ⟨_,hK,?_⟩
 rintro _ _ ⟨rfl,rfl⟩
 cases hk:knB g [c] with
 | false=>
  simp only [go_sem,iEq,iLE,iLT,iTN]
  exact Fin.mv (om':=[.var 88 c0]) [some 0] rfl ⟨.varS rfl (lkC_bl g c0 h0),trivial⟩ cv_ins0 ⟨rfl,c0,h0,rfl⟩
 | true=>
  have hmay:=knB_one hk
  have hPl:=liveR_len false g.defs
  have hNl:=liveR_len true g.defs
  have hFl:=fstR_len (lkP g) (lkN g) g.kinds.length g.defs
  have hSl:=shnR_len (lkP g) (lkN g) g.kinds.length (lkF g) g.defs
  have hFo:=fstR_ok (lkP g) (lkN g) g.kinds.length g.defs
  have hSo:=shnR_ok (lkP g) (lkN g) g.kinds.length (lkF g) g.defs
  simp only [go_sem,iEq,iLE,iLT,iTN]
  refine ⟨_,(cFirstO (Rws_bl _) (by omega) (by rw [hPl,hFl]) (by rw [hNl,hFl]) hFo c (by rw [hFl]; exact hmay)).lendD ⟨.frvS (c:=lkC1 g) rfl rfl (by simp) (lkC_bl g _ (by simp)),.same (Cf.d_bl c),.v,trivial⟩ (boR_plain _),?_⟩
  rintro _ _ ⟨rfl,rfl⟩
  simp only [go_sem,iEq,iLE,iLT,iTN]
  refine (cList _ (by rw [fst_len]; omega)).pd ⟨.same (Bs_bl _),trivial⟩ (Ins_bl _) ?_
  simp only [go_sem,iEq,iLE,iLT,iTN]
  exact fun E0 E e _ hx hR ho=>⟨E,_,_,⟨rfl,lkC1 g,by simp,rfl⟩,rfl,hx,hR,ho⟩
theorem firstC (g:Gr) (hg:mayG g=true) (c:Cf) (hc:c.sz≤1099511627776) (fr bk:List Ob):AC Tryz.prog 18 [.ref fr.length 0,.agg c.c] (fr++[lkA g]++bk) (retP (Ins (firstL g c)) (fr++[lkA g]++bk)):=
 lkShift (AC.alt (by rfl) (lkC_bl g) fun c0 h0=>firstC0 g hg c hc h0) (fun d hd=>by rw [List.mem_singleton.1 hd]; exact Cf.d_bl c) (Ins_bl _) fr bk
set_option maxHeartbeats 4000000 in
theorem shunC0 (g:Gr) (hg:mayG g=true) (c:Cf) (hc:c.sz≤1099511627776) {c0:List D} (h0:c0∈[lkC0 g,lkC1 g]):AC Tryz.prog 19 [.ref 0 0,.agg c.c] [.var 88 c0] (fun o om=>o=.ret (Ins (shunL g c))∧∃ c'∈[lkC0 g,lkC1 g],om=[.var 88 c']):=by
 obtain ⟨m1,m2,m3,m4,m5,m6,m7,m8⟩:=mayG_facts hg
 have hK:=knownC g hg [c] (by simp) (fun x hx=>by rw [List.mem_singleton.1 hx]; exact hc) h0
 have e1:Cfs [c]=.sl 3 [c.c]:=by show D.sl 3 (Cf.cs [c])=_; rw [Cf.cs_eq]; rfl
 rw [e1] at hK
 unfold shunL
 refine AC.lbody hT hm Tryz.func19 f19_nm f19_lc f19_res f19_nt ?_
 simp only [go_sem,iEq,iLE,iLT,iTN,Cf.c_take]
 refine ⟨_,hK,?_⟩
 rintro _ _ ⟨rfl,rfl⟩
 cases hk:knB g [c] with
 | false=>
  simp only [go_sem,iEq,iLE,iLT,iTN]
  exact Fin.mv (om':=[.var 88 c0]) [some 0] rfl ⟨.varS rfl (lkC_bl g c0 h0),trivial⟩ cv_ins0 ⟨rfl,c0,h0,rfl⟩
 | true=>
  have hmay:=knB_one hk
  have hPl:=liveR_len false g.defs
  have hNl:=liveR_len true g.defs
  have hFl:=fstR_len (lkP g) (lkN g) g.kinds.length g.defs
  have hSl:=shnR_len (lkP g) (lkN g) g.kinds.length (lkF g) g.defs
  have hFo:=fstR_ok (lkP g) (lkN g) g.kinds.length g.defs
  have hSo:=shnR_ok (lkP g) (lkN g) g.kinds.length (lkF g) g.defs
  simp only [go_sem,iEq,iLE,iLT,iTN]
  refine ⟨_,(cShunO (by omega) (by rw [hPl,hFl]) (by rw [hNl,hFl]) (by rw [hSl,hFl]) hFo hSo c (by rw [hFl]; exact hmay)).lendD ⟨.frvS (c:=lkC1 g) rfl rfl (by simp) (lkC_bl g _ (by simp)),.same (Cf.d_bl c),.v,trivial⟩ (boR_plain _),?_⟩
  rintro _ _ ⟨rfl,rfl⟩
  simp only [go_sem,iEq,iLE,iLT,iTN]
  refine (cList _ (by rw [shn_len]; omega)).pd ⟨.same (Bs_bl _),trivial⟩ (Ins_bl _) ?_
  simp only [go_sem,iEq,iLE,iLT,iTN]
  exact fun E0 E e _ hx hR ho=>⟨E,_,_,⟨rfl,lkC1 g,by simp,rfl⟩,rfl,hx,hR,ho⟩
theorem shunC (g:Gr) (hg:mayG g=true) (c:Cf) (hc:c.sz≤1099511627776) (fr bk:List Ob):AC Tryz.prog 19 [.ref fr.length 0,.agg c.c] (fr++[lkA g]++bk) (retP (Ins (shunL g c)) (fr++[lkA g]++bk)):=
 lkShift (AC.alt (by rfl) (lkC_bl g) fun c0 h0=>shunC0 g hg c hc h0) (fun d hd=>by rw [List.mem_singleton.1 hd]; exact Cf.d_bl c) (Ins_bl _) fr bk
set_option maxHeartbeats 4000000 in
theorem prod1 (g:Gr) (c:Cf) (hmy:c.may g.kinds.length g.defs.length=true):AP Tryz.prog 55 [.agg c.c,.pel [.pel (fcD (lkP g) (lkN g) (Rws (lkF g)) (Rws (lkSh g)))]] (.b (!(c.live false (lkP g)))):=by
 refine AC.lbody hT hm Tryz.func55 f55_nm f55_lc f55_res f55_nt ?_
 simp only [go_sem,iEq,iLE,iLT,iTN,Cf.c_take]
 refine (cProd (K:=g.kinds.length) (P:=lkP g) (lkN g) (Rws_bl _) (Rws_bl _) c (by rw [liveR_len]; exact hmy)).pv ⟨.same (fcP_bl _ _ (Rws_bl _) (Rws_bl _)),.same (Cf.d_bl c),trivial⟩ ?_
 simp only [go_sem,iEq,iLE,iLT,iTN]
 exact Fin.v rfl
set_option maxHeartbeats 4000000 in
theorem prodC0 (g:Gr) (hg:mayG g=true) (l:List Cf) (hl:l.length≤1000000) (hc:∀ c∈l,c.sz≤1099511627776) {c0:List D} (h0:c0∈[lkC0 g,lkC1 g]):AC Tryz.prog 22 [.ref 0 0,Cfs l] [.var 88 c0] (fun o om=>o=.ret (.b (prodL g l))∧∃ c'∈[lkC0 g,lkC1 g],om=[.var 88 c']):=by
 obtain ⟨m1,m2,m3,m4,m5,m6,m7,m8⟩:=mayG_facts hg
 have hK:=knownC g hg l hl hc h0
 have hq:∀ om (F:Nat→Bool) (kk:List (Option Nat)),Cv om F kk (Cfs l) (Cfs l):=fun om F kk=>.same (.sl (Cf.cs_bl l))
 unfold prodL
 refine AC.lbody hT hm Tryz.func22 f22_nm f22_lc f22_res f22_nt ?_
 simp only [go_sem,iEq,iLE,iLT,iTN]
 refine ⟨_,hK,?_⟩
 rintro _ _ ⟨rfl,rfl⟩
 cases hk:knB g l with
 | false=>
  simp only [go_sem,iEq,iLE,iLT,iTN]
  exact Fin.mv (om':=[.var 88 c0]) [some 0] rfl ⟨.varS rfl (lkC_bl g c0 h0),trivial⟩ .v ⟨rfl,c0,h0,rfl⟩
 | true=>
  have hmay:=knB_all hk
  have hPl:=liveR_len false g.defs
  have hNl:=liveR_len true g.defs
  simp only [go_sem,iEq,iLE,iLT,iTN]
  have hA:=anyCf 55 [.pel [.pel (fcD (lkP g) (lkN g) (Rws (lkF g)) (Rws (lkSh g)))]] (fun d hd=>by rw [List.mem_singleton.1 hd]; exact .pel fun d hd=>by rw [List.mem_singleton.1 hd]; exact fcP_bl _ _ (Rws_bl _) (Rws_bl _)) (fun c=>!(c.live false (lkP g))) l (by omega) fun x hx=>prod1 g x (hmay x hx)
  refine hA.pv ⟨hq _ _ _,.fnL ⟨.frv (c:=[.ref 0 5]) (off:=0) rfl rfl (by simp) ?_,trivial⟩,trivial⟩ ?_
  ·intro j d d' h1 h2
   match j with
   | 0=>cases h1; cases h2; exact .frvS (c:=lkC1 g) rfl rfl (by simp) (lkC_bl g _ (by simp))
   | j+1=>cases h2
  simp only [go_sem,iEq,iLE,iLT,iTN]
  have e2:(!l.any fun c=>!(c.live false (lkP g)))=l.all fun c=>c.live false (lkP g):=by
   clear hA hmay hk hK hq hc hl
   induction l with
   | nil=>rfl
   | cons x l ih=>rw [List.any_cons,List.all_cons,Bool.not_or,Bool.not_not,ih]
  exact Fin.mv (om':=[lk1 g]) [some 0] rfl ⟨.varS rfl (lkC_bl g _ (by simp)),trivial⟩ .v ⟨by rw [e2],lkC1 g,by simp,rfl⟩
theorem prodC (g:Gr) (hg:mayG g=true) (l:List Cf) (hl:l.length≤1000000) (hc:∀ c∈l,c.sz≤1099511627776) (fr bk:List Ob):AC Tryz.prog 22 [.ref fr.length 0,Cfs l] (fr++[lkA g]++bk) (retP (.b (prodL g l)) (fr++[lkA g]++bk)):=
 lkShift (AC.alt (by rfl) (lkC_bl g) fun c0 h0=>prodC0 g hg l hl hc h0) (fun d hd=>by rw [List.mem_singleton.1 hd]; exact .sl (Cf.cs_bl l)) (.v _) fr bk
set_option maxHeartbeats 4000000 in
theorem null1 (g:Gr) (c:Cf) (hmy:c.may g.kinds.length g.defs.length=true):AP Tryz.prog 57 [.agg c.c,.pel [.pel (fcD (lkP g) (lkN g) (Rws (lkF g)) (Rws (lkSh g)))]] (.b (!(c.live true (lkN g)))):=by
 refine AC.lbody hT hm Tryz.func57 f57_nm f57_lc f57_res f57_nt ?_
 simp only [go_sem,iEq,iLE,iLT,iTN,Cf.c_take]
 refine (cNull (K:=g.kinds.length) (N:=lkN g) (lkP g) (Rws_bl _) (Rws_bl _) c (by rw [liveR_len]; exact hmy)).pv ⟨.same (fcP_bl _ _ (Rws_bl _) (Rws_bl _)),.same (Cf.d_bl c),trivial⟩ ?_
 simp only [go_sem,iEq,iLE,iLT,iTN]
 exact Fin.v rfl
set_option maxHeartbeats 4000000 in
theorem nullC0 (g:Gr) (hg:mayG g=true) (l:List Cf) (hl:l.length≤1000000) (hc:∀ c∈l,c.sz≤1099511627776) {c0:List D} (h0:c0∈[lkC0 g,lkC1 g]):AC Tryz.prog 23 [.ref 0 0,Cfs l] [.var 88 c0] (fun o om=>o=.ret (.b (nullL g l))∧∃ c'∈[lkC0 g,lkC1 g],om=[.var 88 c']):=by
 obtain ⟨m1,m2,m3,m4,m5,m6,m7,m8⟩:=mayG_facts hg
 have hK:=knownC g hg l hl hc h0
 have hq:∀ om (F:Nat→Bool) (kk:List (Option Nat)),Cv om F kk (Cfs l) (Cfs l):=fun om F kk=>.same (.sl (Cf.cs_bl l))
 unfold nullL
 refine AC.lbody hT hm Tryz.func23 f23_nm f23_lc f23_res f23_nt ?_
 simp only [go_sem,iEq,iLE,iLT,iTN]
 refine ⟨_,hK,?_⟩
 rintro _ _ ⟨rfl,rfl⟩
 cases hk:knB g l with
 | false=>
  simp only [go_sem,iEq,iLE,iLT,iTN]
  exact Fin.mv (om':=[.var 88 c0]) [some 0] rfl ⟨.varS rfl (lkC_bl g c0 h0),trivial⟩ .v ⟨rfl,c0,h0,rfl⟩
 | true=>
  have hmay:=knB_all hk
  have hPl:=liveR_len false g.defs
  have hNl:=liveR_len true g.defs
  simp only [go_sem,iEq,iLE,iLT,iTN]
  have hA:=anyCf 57 [.pel [.pel (fcD (lkP g) (lkN g) (Rws (lkF g)) (Rws (lkSh g)))]] (fun d hd=>by rw [List.mem_singleton.1 hd]; exact .pel fun d hd=>by rw [List.mem_singleton.1 hd]; exact fcP_bl _ _ (Rws_bl _) (Rws_bl _)) (fun c=>!(c.live true (lkN g))) l (by omega) fun x hx=>null1 g x (hmay x hx)
  refine hA.pv ⟨hq _ _ _,.fnL ⟨.frv (c:=[.ref 0 5]) (off:=0) rfl rfl (by simp) ?_,trivial⟩,trivial⟩ ?_
  ·intro j d d' h1 h2
   match j with
   | 0=>cases h1; cases h2; exact .frvS (c:=lkC1 g) rfl rfl (by simp) (lkC_bl g _ (by simp))
   | j+1=>cases h2
  simp only [go_sem,iEq,iLE,iLT,iTN]
  have e2:(!l.any fun c=>!(c.live true (lkN g)))=l.all fun c=>c.live true (lkN g):=by
   clear hA hmay hk hK hq hc hl
   induction l with
   | nil=>rfl
   | cons x l ih=>rw [List.any_cons,List.all_cons,Bool.not_or,Bool.not_not,ih]
  exact Fin.mv (om':=[lk1 g]) [some 0] rfl ⟨.varS rfl (lkC_bl g _ (by simp)),trivial⟩ .v ⟨by rw [e2],lkC1 g,by simp,rfl⟩
theorem nullC (g:Gr) (hg:mayG g=true) (l:List Cf) (hl:l.length≤1000000) (hc:∀ c∈l,c.sz≤1099511627776) (fr bk:List Ob):AC Tryz.prog 23 [.ref fr.length 0,Cfs l] (fr++[lkA g]++bk) (retP (.b (nullL g l)) (fr++[lkA g]++bk)):=
 lkShift (AC.alt (by rfl) (lkC_bl g) fun c0 h0=>nullC0 g hg l hl hc h0) (fun d hd=>by rw [List.mem_singleton.1 hd]; exact .sl (Cf.cs_bl l)) (.v _) fr bk
set_option maxHeartbeats 4000000 in
theorem grC0 (g:Gr) (hg:mayG g=true) {c0:List D} (h0:c0∈[lkC0 g,lkC1 g]):AC Tryz.prog 26 [.ref 0 0] [.var 88 c0] (fun o om=>o=.ret (.agg g.c)∧∃ c'∈[lkC0 g,lkC1 g],om=[.var 88 c']):=by
 have hC:=cloneC g hg
 have hb:=lkC_bl g c0 h0
 refine AC.lbody hT hm Tryz.func26 f26_nm f26_lc f26_res f26_nt ?_
 simp only [zb,za,or_false] at h0
 rcases h0 with rfl | rfl
 ·simp only [go_sem,iEq,iLE,iLT,iTN]
  refine hC.pd ⟨.same (Gr.d_bl g),trivial⟩ (Gr.d_bl g) ?_
  simp only [go_sem,iEq,iLE,iLT,iTN]
  exact Fin.mv (om':=[.var 88 (lkC0 g)]) [some 0] rfl ⟨.varS rfl hb,trivial⟩ (.same (Gr.d_bl g)) ⟨rfl,lkC0 g,by simp,rfl⟩
 ·simp only [go_sem,iEq,iLE,iLT,iTN]
  refine hC.pd ⟨.same (Gr.d_bl g),trivial⟩ (Gr.d_bl g) ?_
  simp only [go_sem,iEq,iLE,iLT,iTN]
  exact Fin.mv (om':=[.var 88 (lkC1 g)]) [some 0] rfl ⟨.varS rfl hb,trivial⟩ (.same (Gr.d_bl g)) ⟨rfl,lkC1 g,by simp,rfl⟩
theorem grC (g:Gr) (hg:mayG g=true) (fr bk:List Ob):AC Tryz.prog 26 [.ref fr.length 0] (fr++[lkA g]++bk) (retP (.agg g.c) (fr++[lkA g]++bk)):=
 lkShift (AC.alt (by rfl) (lkC_bl g) fun c0 h0=>grC0 g hg h0) (fun d hd=>by cases hd) (Gr.d_bl g) fr bk
end Go.Proofs.YtbmedfjmccnclaaGreat.W
set_option maxRecDepth 100000
namespace Go.Proofs.YtbmedfjmccnclaaGreat.W
open Go Go.Proofs Go.Proofs.YtbmedfjmccnclaaGreat.AWP
open Int renaming reduceEq→iEq,reduceLE→iLE,reduceLT→iLT,reduceToNat→iTN
open List renaming length_map→lMp
section
variable {P N:List Bool} {F:List (List Bool)} {n D:Nat}
end
section
variable {g:Gr} (hd:∀ d∈g.defs,d.2.may g.kinds.length g.defs.length=true)
include hd
end
end Go.Proofs.YtbmedfjmccnclaaGreat.W
set_option maxRecDepth 100000
namespace Go.Proofs.YtbmedfjmccnclaaGreat.W
open Go Go.Proofs Go.Proofs.YtbmedfjmccnclaaGreat.AWP
open Int renaming reduceEq→iEq,reduceLE→iLE,reduceLT→iLT,reduceToNat→iTN
open List renaming length_map→lMp
attribute [local irreducible] xl hide aop aops aopQ qops guardP condP
theorem in_get {l:List Nat} {i x:Nat} (h:l[i]? = some x):(inR l)[i]? = some [.i x]:=by rw [List.getElem?_map,h]; rfl
set_option maxHeartbeats 4000000 in
theorem rInts (a b:List Nat) (ha:a.length≤1000000) (hb:b.length≤1000000):AP Tryz.prog 17 [Ins a,Ins b] (.b (decide (a=b))):=by
 have hq:∀ om (F:Nat→Bool) (kk:List (Option Nat)),Cv om F kk (Ins a) (Ins a):=fun om F kk=>.same (Ins_bl a)
 have hq2:∀ om (F:Nat→Bool) (kk:List (Option Nat)),Cv om F kk (Ins b) (Ins b):=fun om F kk=>.same (Ins_bl b)
 refine AC.lbody hT hm Tryz.func17 f17_nm f17_lc f17_res f17_nt ?_
 by_cases hl:a.length=b.length
 case neg=>
  have hz:((a.length:Int) != (b.length:Int))=true:=by simp; omega
  simp only [go_sem,iEq,iLE,iLT,iTN,lMp,hz]
  exact Fin.v (by rw [decide_eq_false]; exact fun h=>hl (by rw [h]))
 have hz:((a.length:Int) != (b.length:Int))=false:=by simp; omega
 simp only [go_sem,iEq,iLE,iLT,iTN,lMp,hz]
 refine xl_loopM hT hm (fun i:Nat=>⟨f17_i9 (Ins a) (Ins b) (.i a.length) (.i i),[]⟩)
  (fun i=>i≤a.length∧a.take i=b.take i) (fun i=>a.length - i) 0 ⟨Nat.zero_le _,by simp⟩ (Mv.none (by simp [f17_i9,hq,hq2])) ?_
 rintro i ⟨hi,ht⟩
 simp only [go_sem,iEq,iLE,iLT,iTN,lMp]
 by_cases hiq:i<a.length
 case neg=>
  simp only [go_sem,iEq,iLE,iLT,iTN,hiq]
  rw [List.take_of_length_le (by omega),List.take_of_length_le (by omega)] at ht
  exact Fin.v (by rw [decide_eq_true ht])
 obtain ⟨x,hx⟩:=get_ex hiq
 obtain ⟨y,hy⟩:=get_ex (l:=b) (show i<b.length by omega)
 have hib:i<b.length:=by omega
 have hgx:=in_get hx
 have hgy:=in_get hy
 have hw:=wrap_succ i (by omega)
 by_cases hxy:x=y
 ·have hn:((x:Int) != (y:Int))=false:=by simp; omega
  simp only [go_sem,iEq,iLE,iLT,iTN,lMp,hiq,hib,hgx,hgy,hn,hw,Nat.div_one,Nat.mod_one]
  exact ⟨i+1,⟨by omega,by rw [List.take_add_one,List.take_add_one,ht,hx,hy,hxy]⟩,by omega,Mv.none (by simp [hq,hq2])⟩
 ·have hn:((x:Int) != (y:Int))=true:=by simp; omega
  simp only [go_sem,iEq,iLE,iLT,iTN,lMp,hiq,hib,hgx,hgy,hn,hw,Nat.div_one,Nat.mod_one]
  refine Fin.v ?_
  rw [decide_eq_false]
  intro h
  rw [h,hy] at hx
  exact hxy (Option.some.inj hx).symm
def s22:ByteArray:=⟨#[115,32,61,32,97,32,115,32,98,32,124,32,40,41,10]⟩
def k22:List ByteArray:=[⟨#[97]⟩,⟨#[98]⟩]
abbrev rf (n:Nat):Cf:=.mk 6 n []
abbrev rfZ (n:Nat):List D:=[.v (.int .u8 6),.v (.int .i64 n),nilS]
theorem cvRf {om:List Ob} {F:Nat→Bool} {kk:List (Option Nat)} (n:Nat):CvL om F kk (rfZ n) (rf n).c:=by
 rw [Cf.c_mk,Cf.cs_eq]
 exact ⟨.v,.v,.nil,trivial⟩
theorem cvRfs {om:List Ob} {F:Nat→Bool} {kk:List (Option Nat)} (n:Nat):Cv om F kk (.sl 3 [rfZ n]) (Cfs [rf n]):=by
 have e1:Cfs [rf n]=.sl 3 [(rf n).c]:=by show D.sl 3 (Cf.cs [rf n])=_; rw [Cf.cs_eq]; rfl
 rw [e1]
 refine .sl rfl (fun i r r' h1 h2=>?_) (fun i r r' j d d' h1 h2 h3 h4=>?_)
 ·match i with
  | 0=>cases h1; cases h2; rw [Cf.c_mk]; rfl
  | i+1=>cases h1
 ·match i with
  | 0=>cases h1; cases h2; exact (cvRf n).get j d d' h3 h4
  | i+1=>cases h1
theorem ofT (g:Gr) (hm:mayG g=true):AC Tryz.prog 15 [.agg g.c] [] (fun o om=>o=.ret (.tup [.ref 0 0,.v (.int .i64 0)])∧om=[lkA g]):=by
 refine (ofC g (GFit_may hm)).mono ?_
 rintro o om (⟨h,_⟩ | ⟨_,rfl,rfl⟩)
 ·rw [hm] at h; cases h
 ·exact ⟨rfl,rfl⟩
set_option maxHeartbeats 4000000 in
theorem awake22:AP Tryz.prog 14 [] (.b true):=by
 have e1:(readC s22 k22).2=(0,0):=by decide +kernel
 have e3:mayG (readC s22 k22).1=true:=by decide +kernel
 have e4:nullL (readC s22 k22).1 [rf 0]=true:=by decide +kernel
 have e5:firstL (readC s22 k22).1 (rf 0)=[0]:=by decide +kernel
 have e6:shunL (readC s22 k22).1 (rf 0)=[0]:=by decide +kernel
 have hR:=cReadA s22 k22 (by decide) (by decide)
 generalize readC s22 k22=p at *
 obtain ⟨g,a,b⟩:=p
 cases e1
 dsimp only at e3 e4 e5 e6
 have hz:(rf 0).sz≤1099511627776:=by rw [Cf.sz_mk,Cf.szs_nil]; omega
 have hF:=GFit_may e3
 have hk:Strs k22=.sl 1 [[.s ⟨#[97]⟩],[.s ⟨#[98]⟩]]:=rfl
 have c1:(((0:Nat):Int) == 0)=true:=rfl
 refine AC.lbody hT hm Tryz.func14 f14_nm f14_lc f14_res f14_nt ?_
 simp only [go_sem,iEq,iLE,iLT,iTN]
 refine hR.pd ⟨.v,.same (Strs_bl k22),trivial⟩ (readCD_bl _) ?_
 simp only [go_sem,iEq,iLE,iLT,iTN,gr_take,gr_c_len]
 refine ⟨_,(ofT g e3).frameT (om:=[.var 25 g.c]) ⟨.same (Gr.d_bl g),trivial⟩ (lkC_bl g),?_⟩
 rintro _ _ ⟨rfl,rfl⟩
 simp only [go_sem,iEq,iLE,iLT,iTN,c1]
 refine ⟨_,(nullC g e3 [rf 0] (by simp) (fun c hc=>by rw [List.mem_singleton.1 hc]; exact hz) [.var 25 g.c] [.var 28 (rfZ 0)]).args ⟨.ref rfl,cvRfs 0,trivial⟩,?_⟩
 rintro _ _ ⟨rfl,rfl⟩
 simp only [go_sem,iEq,iLE,iLT,iTN,e4]
 refine ⟨_,(firstC g e3 (rf 0) hz [.var 25 g.c] [.var 28 (rfZ 0)]).args ⟨.ref rfl,.aggL (cvRf 0),trivial⟩,?_⟩
 rintro _ _ ⟨rfl,rfl⟩
 simp only [go_sem,iEq,iLE,iLT,iTN,e5]
 refine (rInts [0] [0] (by simp) (by simp)).pv ⟨.same (Ins_bl [0]),.same (Ins_bl [0]),trivial⟩ ?_
 simp only [go_sem,iEq,iLE,iLT,iTN,decide_true]
 refine ⟨_,(shunC g e3 (rf 0) hz [.var 25 g.c] [.var 28 (rfZ 0)]).args ⟨.ref rfl,.aggL (cvRf 0),trivial⟩,?_⟩
 rintro _ _ ⟨rfl,rfl⟩
 simp only [go_sem,iEq,iLE,iLT,iTN,e6]
 refine (rInts [0] [0] (by simp) (by simp)).pv ⟨.same (Ins_bl [0]),.same (Ins_bl [0]),trivial⟩ ?_
 simp only [go_sem,iEq,iLE,iLT,iTN,decide_true]
 exact Fin.v rfl
end Go.Proofs.YtbmedfjmccnclaaGreat.W
set_option maxRecDepth 100000
namespace Go.Proofs.YtbmedfjmccnclaaGreat.W
open Go Go.Proofs Go.Proofs.YtbmedfjmccnclaaGreat.AWP
open Int renaming reduceEq→iEq,reduceLE→iLE,reduceLT→iLT,reduceToNat→iTN
open List renaming length_map→lMp
attribute [local irreducible] xl hide aop aops aopQ qops guardP condP
end Go.Proofs.YtbmedfjmccnclaaGreat.W
set_option maxRecDepth 100000
namespace Go.Proofs.YtbmedfjmccnclaaGreat.W
open Go Go.Proofs Go.Proofs.YtbmedfjmccnclaaGreat.AWP
open Int renaming reduceEq→iEq,reduceLE→iLE,reduceLT→iLT,reduceToNat→iTN
open List renaming length_map→lMp
attribute [local irreducible] xl hide aop aops aopQ qops guardP condP
section
variable {g:Gr} (hg:mayG g=true) {i:Nat} {d:Df} (hdi:g.defs[i]? = some d)
include hg hdi
end
end Go.Proofs.YtbmedfjmccnclaaGreat.W
set_option maxRecDepth 100000
namespace Go.Proofs.YtbmedfjmccnclaaGreat.W
open Go Go.Proofs Go.Proofs.YtbmedfjmccnclaaGreat.AWP
open Int renaming reduceEq→iEq,reduceLE→iLE,reduceLT→iLT,reduceToNat→iTN
open List renaming length_map→lMp
open _root_.Int renaming reduceBEq → za
open _root_.List renaming map_cons → zb, map_nil → zc
attribute [local irreducible] xl hide aop aops aopQ qops guardP condP
abbrev kD (P N:List Bool) (F S:D) (n:Nat):List D:=[Bs P,Bs N,F,S,.i n]
theorem kD_bl (P N:List Bool) {F S:D} (hF:Bl 0 F) (hS:Bl 0 S) (n:Nat):Bl 0 (.agg (kD P N F S n)):=by
 refine .agg fun d hd=>?_
 simp only [List.mem_cons,List.not_mem_nil,or_false] at hd
 rcases hd with rfl | rfl | rfl | rfl | rfl
 ·exact Bs_bl _
 ·exact Bs_bl _
 ·exact hF
 ·exact hS
 ·exact .v _
set_option maxHeartbeats 4000000 in
theorem rLive {K:Nat} {P N:List Bool} (hl:N.length=P.length) {F S:D} (hF:Bl 0 F) (hS:Bl 0 S) (n:Nat) (null:Bool):∀ r:Cf,r.may K P.length=true→AP Tryz.prog 59 [.agg (kD P N F S n),.agg r.c,.b null] (.b (r.live null (if null=true then N else P))):=by
 have hq:=kD_bl P N hF hS n
 refine may_cases ?_ ?_ ?_ ?_ ?_ ?_
 ·rw [live_1]
  refine AC.lbody hT hm Tryz.func59 f59_nm f59_lc f59_res f59_nt ?_
  simp only [go_sem,iEq,iLE,iLT,iTN,za,Cf.c_mk,Cf.cs_eq]
  exact Fin.v rfl
 ·rw [live_2]
  refine AC.lbody hT hm Tryz.func59 f59_nm f59_lc f59_res f59_nt ?_
  simp only [go_sem,iEq,iLE,iLT,iTN,za,Cf.c_mk,Cf.cs_eq]
  exact Fin.v rfl
 ·intro k hk
  rw [live_3]
  refine AC.lbody hT hm Tryz.func59 f59_nm f59_lc f59_res f59_nt ?_
  simp only [go_sem,iEq,iLE,iLT,iTN,za,Cf.c_mk,Cf.cs_eq]
  exact Fin.v rfl
 ·intro k hk
  obtain ⟨b,hb⟩:=get_ex hk
  obtain ⟨b',hb'⟩:=get_ex (l:=N) (show k<N.length by omega)
  have hkN:k<N.length:=by omega
  have hgb:=bo_get hb
  have hgb':=bo_get hb'
  rw [live_6]
  refine AC.lbody hT hm Tryz.func59 f59_nm f59_lc f59_res f59_nt ?_
  cases null
  ·rw [if_neg (by simp),getD_of hb]
   simp only [go_sem,iEq,iLE,iLT,iTN,za,Cf.c_mk,Cf.cs_eq,lMp,hk,hb,hgb]
   exact Fin.v rfl
  ·rw [if_pos rfl,getD_of hb']
   simp only [go_sem,iEq,iLE,iLT,iTN,za,Cf.c_mk,Cf.cs_eq,lMp,hkN,hb',hgb']
   exact Fin.v rfl
 ·intro x y _ _ hx hy
  rw [live_4]
  refine AC.lbody hT hm Tryz.func59 f59_nm f59_lc f59_res f59_nt ?_
  simp only [go_sem,iEq,iLE,iLT,iTN,za,Cf.c_mk,Cf.cs_eq,zb,zc,Cf.c_take,cf2_0,cf2_1]
  refine hx.qv ⟨.same hq,.same (Cf.d_bl x),.v,trivial⟩ ?_
  cases x.live null (if null=true then N else P) with
  | false=>
   simp only [go_sem,iEq,iLE,iLT,iTN,za]
   exact Fin.v rfl
  | true=>
   simp only [go_sem,iEq,iLE,iLT,iTN,za,Cf.c_mk,Cf.cs_eq,zb,zc,Cf.c_take,cf2_0,cf2_1]
   refine hy.pv ⟨.same hq,.same (Cf.d_bl y),.v,trivial⟩ ?_
   simp only [go_sem,iEq,iLE,iLT,iTN,za]
   exact Fin.v (by simp)
 ·intro x y _ _ hx hy
  rw [live_5]
  refine AC.lbody hT hm Tryz.func59 f59_nm f59_lc f59_res f59_nt ?_
  simp only [go_sem,iEq,iLE,iLT,iTN,za,Cf.c_mk,Cf.cs_eq,zb,zc,Cf.c_take,cf2_0,cf2_1]
  refine hx.qv ⟨.same hq,.same (Cf.d_bl x),.v,trivial⟩ ?_
  cases x.live null (if null=true then N else P) with
  | true=>
   simp only [go_sem,iEq,iLE,iLT,iTN,za]
   exact Fin.v rfl
  | false=>
   simp only [go_sem,iEq,iLE,iLT,iTN,za,Cf.c_mk,Cf.cs_eq,zb,zc,Cf.c_take,cf2_0,cf2_1]
   refine hy.pv ⟨.same hq,.same (Cf.d_bl y),.v,trivial⟩ ?_
   simp only [go_sem,iEq,iLE,iLT,iTN,za]
   exact Fin.v (by simp)
set_option maxHeartbeats 4000000 in
theorem rOrO (a b:List Bool) (hl:b.length≤a.length) (ha:a.length≤1000000):AC Tryz.prog 78 [Bs a,Bs b] [] (newR (bOb (orR a b))):=by
 have hq:∀ om (F:Nat→Bool) (kk:List (Option Nat)),Cv om F kk (Bs b) (Bs b):=fun om F kk=>.same (Bs_bl b)
 refine AC.lbody hT hm Tryz.func78 f78_nm f78_lc f78_res f78_nt ?_
 simp only [go_sem,iEq,iLE,iLT,iTN,lMp]
 refine ⟨by omega,?_⟩
 refine xl_loopM hT hm (fun i:Nat=>⟨f78_i7 (Bs b) (.own 0) (.i b.length) (.i i),[bOb (orR a (b.take i))]⟩)
  (fun i=>i≤b.length) (fun i=>b.length - i) 0 (Nat.zero_le _) ?_ ?_
 ·have e0:orR a (b.take 0)=a:=by rw [List.take_zero]; cases a <;> rfl
  rw [e0]
  exact Mv.of [some 1] rfl ⟨.slcS rfl (boR_bl a),trivial⟩ (by simp [f78_i7,hq])
 intro i hi
 simp only [go_sem,iEq,iLE,iLT,iTN,lMp]
 by_cases hiq:i<b.length
 case neg=>
  have t2:b.take i=b:=List.take_of_length_le (by omega)
  simp only [go_sem,iEq,iLE,iLT,iTN,hiq,t2]
  exact fun E0 E e _ hx hR ho=>⟨E,_,_,⟨rfl,rfl⟩,rfl,hx,hR,ho⟩
 obtain ⟨x,hx⟩:=get_ex (l:=a) (show i<a.length by omega)
 obtain ⟨y,hy⟩:=get_ex hiq
 have ho:=orR_set hx hy
 have hcur:=orR_at (l:=b) hx
 have hlen:(orR a (b.take i)).length=a.length:=orR_len _ _
 generalize orR a (b.take i)=o at ho hcur hlen ⊢
 have hg:=bo_get hcur
 have hgq:=bo_get hy
 have hil:i<o.length:=by omega
 have hw:=wrap_succ i (by omega)
 cases x <;> cases y
 all_goals
  simp only [go_sem,iEq,iLE,iLT,iTN,hiq,hg,hgq,lMp,hil,boR_set,Nat.div_one,Nat.mod_one,hw]
  refine ⟨i+1,by omega,by omega,?_⟩
  simp only [Bool.or_true,Bool.or_false,Bool.true_or,Bool.false_or] at ho
  rw [← ho]
  exact Mv.of [some 0] rfl ⟨.slcS rfl (boR_bl _),trivial⟩ (by simp [hq])
theorem rOr (a b:List Bool) (hl:b.length≤a.length) (ha:a.length≤1000000):AP Tryz.prog 78 [Bs a,Bs b] (Bs (orR a b)):=frzB (rOrO a b hl ha)
end Go.Proofs.YtbmedfjmccnclaaGreat.W
set_option maxRecDepth 100000
namespace Go.Proofs.YtbmedfjmccnclaaGreat.W
open Go Go.Proofs Go.Proofs.YtbmedfjmccnclaaGreat.AWP
open Int renaming reduceEq→iEq,reduceLE→iLE,reduceLT→iLT,reduceToNat→iTN
open List renaming length_map→lMp
open _root_.List renaming length_cons → za, map_cons → zc, map_nil → zd, not_mem_nil → zf, mem_cons → zi
open _root_.Int renaming reduceBEq → zb
open _root_.Nat renaming zero_le → ze, div_one → zg, mod_one → zh
attribute [local irreducible] xl hide aop aops aopQ qops guardP condP
abbrev rOb (F:List (List Bool)):Ob:=.slc 83 1 (bwR F)
abbrev kOm (P N:List Bool) (F S:List (List Bool)):List Ob:=[bOb P,bOb N,rOb F,rOb S]
abbrev kO (n:Nat):List D:=[.own 0,.own 1,.own 2,.own 3,.i n]
theorem kCv {P N:List Bool} {F S:List (List Bool)} {n:Nat} {X:List Ob} {kk:List (Option Nat)}:Cv (kOm P N F S++X) (fun _=>true) kk (.agg (kO n)) (.agg (kD P N (Rws F) (Rws S) n)):=
 .aggL ⟨.frzS rfl rfl (boR_bl _),.frzS rfl rfl (boR_bl _),.frzS rfl rfl (bwR_bl _),.frzS rfl rfl (bwR_bl _),.v,trivial⟩
theorem kO_bl {n:Nat} {c:List D} (hc:Bl 0 (.agg c)):∀ d∈[D.agg (kO n),.agg c],Bl 4 d:=by
 intro d hd
 simp only [zi,zf,or_false] at hd
 rcases hd with rfl | rfl
 ·refine .agg fun d hd=>?_
  simp only [zi,zf,or_false] at hd
  rcases hd with rfl | rfl | rfl | rfl | rfl
  ·exact .own (by omega)
  ·exact .own (by omega)
  ·exact .own (by omega)
  ·exact .own (by omega)
  ·exact .v _
 ·exact hc.mono (ze _)
theorem kOm_bl {P N:List Bool} {F S:List (List Bool)}:∀ o∈kOm P N F S,ObAll (Bl 4) o:=by
 intro o ho
 simp only [zi,zf,or_false] at ho
 rcases ho with rfl | rfl | rfl | rfl
 ·exact fun r hr d hd=>(boR_bl _ r hr d hd).mono (ze _)
 ·exact fun r hr d hd=>(boR_bl _ r hr d hd).mono (ze _)
 ·exact fun r hr d hd=>(bwR_bl _ r hr d hd).mono (ze _)
 ·exact fun r hr d hd=>(bwR_bl _ r hr d hd).mono (ze _)
theorem kMv {P N:List Bool} {F S:List (List Bool)} {X:List Ob} {A:Nat→Bool} {kk:List (Option Nat)}:MvL (kOm P N F S++X) A kk [some 0,some 1,some 2,some 3] (kOm P N F S):=
 ⟨.slcS rfl (boR_bl _),.slcS rfl (boR_bl _),.slcS rfl (bwR_bl _),.slcS rfl (bwR_bl _),trivial⟩
theorem orR_zr {n:Nat} {l:List Bool} (h:l.length=n):orR (zR n) l=l:=by
 subst h
 induction l with
 | nil=>rfl
 | cons b l ih=>rw [za,zR,List.replicate_succ,orR,ih]; rfl
set_option maxHeartbeats 8000000 in
theorem rBegO {P N:List Bool} {F S:List (List Bool)} {n:Nat} (hn:n≤1000000) (hP:P.length=F.length) (hN:N.length=F.length) (hF:FsOk n F):∀ r:Cf,r.may n F.length=true→AC Tryz.prog 47 [.agg (kO n),.agg r.c] (kOm P N F S) (retP (Bs (r.fst P N n F)) (kOm P N F S)):=by
 have hq:=kD_bl P N (Rws_bl F) (Rws_bl S) n
 have hb:(n:Int)≤281474976710656:=by omega
 have hz:(zR n).length=n:=by simp [zR]
 have hL:=fun null=>rLive (K:=n) (P:=P) (N:=N) (hN.trans hP.symm) (Rws_bl F) (Rws_bl S) n null
 rw [hP] at hL
 refine may_cases ?_ ?_ ?_ ?_ ?_ ?_
 ·rw [fst_1]
  refine AC.lbody hT hm Tryz.func47 f47_nm f47_lc f47_res f47_nt ?_
  simp only [go_sem,iEq,iLE,iLT,iTN,zb,Cf.c_mk,Cf.cs_eq,zc,zd,Cf.c_take,cf2_0,cf2_1,za,lMp,hb]
  refine ⟨by omega,by omega,?_⟩
  rw [boR_rep]
  try simp only [go_sem,iEq,iLE,iLT,iTN,zb,Cf.c_mk,Cf.cs_eq,zc,zd,Cf.c_take,cf2_0,cf2_1,za,lMp,hb]
  exact Fin.mv (om':=kOm P N F S) [some 0,some 1,some 2,some 3] rfl (kMv (X:=_)) (.frzS rfl rfl (boR_bl _)) ⟨rfl,rfl⟩
 ·rw [fst_2]
  refine AC.lbody hT hm Tryz.func47 f47_nm f47_lc f47_res f47_nt ?_
  simp only [go_sem,iEq,iLE,iLT,iTN,zb,Cf.c_mk,Cf.cs_eq,zc,zd,Cf.c_take,cf2_0,cf2_1,za,lMp,hb]
  refine ⟨by omega,by omega,?_⟩
  rw [boR_rep]
  try simp only [go_sem,iEq,iLE,iLT,iTN,zb,Cf.c_mk,Cf.cs_eq,zc,zd,Cf.c_take,cf2_0,cf2_1,za,lMp,hb]
  exact Fin.mv (om':=kOm P N F S) [some 0,some 1,some 2,some 3] rfl (kMv (X:=_)) (.frzS rfl rfl (boR_bl _)) ⟨rfl,rfl⟩
 ·intro k hk
  rw [fst_3]
  have hk2:k<(zR n).length:=by rw [hz]; exact hk
  have hzk:(zR n)[k]? = some false:=by simp [zR,hk]
  refine AC.lbody hT hm Tryz.func47 f47_nm f47_lc f47_res f47_nt ?_
  simp only [go_sem,iEq,iLE,iLT,iTN,zb,Cf.c_mk,Cf.cs_eq,zc,zd,Cf.c_take,cf2_0,cf2_1,za,lMp,hb,hk,hk2,hzk,boR_set,zg,zh]
  refine ⟨by omega,by omega,?_⟩
  rw [boR_rep]
  try simp only [go_sem,iEq,iLE,iLT,iTN,zb,Cf.c_mk,Cf.cs_eq,zc,zd,Cf.c_take,cf2_0,cf2_1,za,lMp,hb,hk,hk2,hzk,boR_set,zg,zh]
  exact Fin.mv (om':=kOm P N F S) [some 0,some 1,some 2,some 3] rfl (kMv (X:=_)) (.frzS rfl rfl (boR_bl _)) ⟨rfl,rfl⟩
 ·intro k hk
  obtain ⟨f,hf⟩:=get_ex (l:=F) hk
  have hgf:=bw_get hf
  rw [fst_6,List.getD_eq_getElem?_getD,hf,Option.getD_some,orR_zr (hF f (List.mem_of_getElem? hf))]
  refine AC.lbody hT hm Tryz.func47 f47_nm f47_lc f47_res f47_nt ?_
  simp only [go_sem,iEq,iLE,iLT,iTN,zb,Cf.c_mk,Cf.cs_eq,zc,zd,Cf.c_take,cf2_0,cf2_1,za,lMp,hb,hk,hgf,zg,zh]
  refine ⟨by omega,by omega,?_⟩
  rw [boR_rep]
  try simp only [go_sem,iEq,iLE,iLT,iTN,zb,Cf.c_mk,Cf.cs_eq,zc,zd,Cf.c_take,cf2_0,cf2_1,za,lMp,hb,hk,hgf,zg,zh]
  exact Fin.mv (om':=kOm P N F S) [some 0,some 1,some 2,some 3] rfl (kMv (X:=_)) (.same (Bs_bl _)) ⟨rfl,rfl⟩
 ·intro x y hxm hym hx hy
  rw [fst_4]
  have hxl:=fst_len P N n F x
  have hyl:=fst_len P N n F y
  have px:=hL true x hxm
  have py:=hL false y hym
  rw [if_pos rfl] at px
  rw [if_neg (by simp)] at py
  refine AC.lbody hT hm Tryz.func47 f47_nm f47_lc f47_res f47_nt ?_
  simp only [go_sem,iEq,iLE,iLT,iTN,zb,Cf.c_mk,Cf.cs_eq,zc,zd,Cf.c_take,cf2_0,cf2_1,za,lMp,hb]
  refine ⟨by omega,by omega,?_⟩
  rw [boR_rep]
  try simp only [go_sem,iEq,iLE,iLT,iTN,zb,Cf.c_mk,Cf.cs_eq,zc,zd,Cf.c_take,cf2_0,cf2_1,za,lMp,hb]
  refine py.pv ⟨kCv (X:=_),.same (Cf.d_bl y),.v,trivial⟩ ?_
  cases hyp:y.live false P <;> cases hxn:x.live true N
  all_goals rw [hxn] at px
  ·simp only [go_sem,iEq,iLE,iLT,iTN,zb,Cf.c_mk,Cf.cs_eq,zc,zd,Cf.c_take,cf2_0,cf2_1,za,lMp,hb]
   refine px.pv ⟨kCv (X:=_),.same (Cf.d_bl x),.v,trivial⟩ ?_
   simp only [go_sem,iEq,iLE,iLT,iTN,zb,Cf.c_mk,Cf.cs_eq,zc,zd,Cf.c_take,cf2_0,cf2_1,za,lMp,hb]
   exact Fin.mv (om':=kOm P N F S) [some 0,some 1,some 2,some 3] rfl (kMv (X:=_)) (.frzS rfl rfl (boR_bl _)) ⟨rfl,rfl⟩
  ·simp only [go_sem,iEq,iLE,iLT,iTN,zb,Cf.c_mk,Cf.cs_eq,zc,zd,Cf.c_take,cf2_0,cf2_1,za,lMp,hb]
   refine px.pv ⟨kCv (X:=_),.same (Cf.d_bl x),.v,trivial⟩ ?_
   simp only [go_sem,iEq,iLE,iLT,iTN,zb,Cf.c_mk,Cf.cs_eq,zc,zd,Cf.c_take,cf2_0,cf2_1,za,lMp,hb]
   refine ⟨_,hy.behind (bk:=_) (kO_bl (Cf.d_bl _)) kOm_bl (Bs_bl _),?_⟩
   simp only [go_sem,iEq,iLE,iLT,iTN,zb,Cf.c_mk,Cf.cs_eq,zc,zd,Cf.c_take,cf2_0,cf2_1,za,lMp,hb]
   refine ⟨_,(rOrO (zR n) (y.fst P N n F) (by omega) (by omega)).lendD ⟨.frzS (k:=4) rfl rfl (boR_bl _),.same (Bs_bl _),trivial⟩ (boR_plain _),?_⟩
   rintro _ _ ⟨rfl,rfl⟩
   simp only [go_sem,iEq,iLE,iLT,iTN,zb,Cf.c_mk,Cf.cs_eq,zc,zd,Cf.c_take,cf2_0,cf2_1,za,lMp,hb]
   exact Fin.mv (om':=kOm P N F S) [some 0,some 1,some 2,some 3] rfl (kMv (X:=_)) (.same (Bs_bl _)) ⟨rfl,rfl⟩
  ·simp only [go_sem,iEq,iLE,iLT,iTN,zb,Cf.c_mk,Cf.cs_eq,zc,zd,Cf.c_take,cf2_0,cf2_1,za,lMp,hb]
   refine ⟨_,hx.behind (bk:=_) (kO_bl (Cf.d_bl _)) kOm_bl (Bs_bl _),?_⟩
   simp only [go_sem,iEq,iLE,iLT,iTN,zb,Cf.c_mk,Cf.cs_eq,zc,zd,Cf.c_take,cf2_0,cf2_1,za,lMp,hb]
   refine ⟨_,(rOrO (zR n) (x.fst P N n F) (by omega) (by omega)).lendD ⟨.frzS (k:=4) rfl rfl (boR_bl _),.same (Bs_bl _),trivial⟩ (boR_plain _),?_⟩
   rintro _ _ ⟨rfl,rfl⟩
   simp only [go_sem,iEq,iLE,iLT,iTN,zb,Cf.c_mk,Cf.cs_eq,zc,zd,Cf.c_take,cf2_0,cf2_1,za,lMp,hb]
   refine px.pv ⟨kCv (X:=_),.same (Cf.d_bl x),.v,trivial⟩ ?_
   simp only [go_sem,iEq,iLE,iLT,iTN,zb,Cf.c_mk,Cf.cs_eq,zc,zd,Cf.c_take,cf2_0,cf2_1,za,lMp,hb]
   exact Fin.mv (om':=kOm P N F S) [some 0,some 1,some 2,some 3] rfl (kMv (X:=_)) (.same (Bs_bl _)) ⟨rfl,rfl⟩
  ·simp only [go_sem,iEq,iLE,iLT,iTN,zb,Cf.c_mk,Cf.cs_eq,zc,zd,Cf.c_take,cf2_0,cf2_1,za,lMp,hb]
   refine ⟨_,hx.behind (bk:=_) (kO_bl (Cf.d_bl _)) kOm_bl (Bs_bl _),?_⟩
   simp only [go_sem,iEq,iLE,iLT,iTN,zb,Cf.c_mk,Cf.cs_eq,zc,zd,Cf.c_take,cf2_0,cf2_1,za,lMp,hb]
   refine ⟨_,(rOrO (zR n) (x.fst P N n F) (by omega) (by omega)).lendD ⟨.frzS (k:=4) rfl rfl (boR_bl _),.same (Bs_bl _),trivial⟩ (boR_plain _),?_⟩
   rintro _ _ ⟨rfl,rfl⟩
   simp only [go_sem,iEq,iLE,iLT,iTN,zb,Cf.c_mk,Cf.cs_eq,zc,zd,Cf.c_take,cf2_0,cf2_1,za,lMp,hb]
   refine px.pv ⟨kCv (X:=_),.same (Cf.d_bl x),.v,trivial⟩ ?_
   simp only [go_sem,iEq,iLE,iLT,iTN,zb,Cf.c_mk,Cf.cs_eq,zc,zd,Cf.c_take,cf2_0,cf2_1,za,lMp,hb]
   refine ⟨_,hy.behind (bk:=_) (kO_bl (Cf.d_bl _)) kOm_bl (Bs_bl _),?_⟩
   simp only [go_sem,iEq,iLE,iLT,iTN,zb,Cf.c_mk,Cf.cs_eq,zc,zd,Cf.c_take,cf2_0,cf2_1,za,lMp,hb]
   refine (rOr (orR (zR n) (x.fst P N n F)) (y.fst P N n F) (by simp only [orR_len]; omega) (by simp only [orR_len]; omega)).pd ⟨.same (Bs_bl _),.same (Bs_bl _),trivial⟩ (Bs_bl _) ?_
   simp only [go_sem,iEq,iLE,iLT,iTN,zb,Cf.c_mk,Cf.cs_eq,zc,zd,Cf.c_take,cf2_0,cf2_1,za,lMp,hb]
   exact Fin.mv (om':=kOm P N F S) [some 0,some 1,some 2,some 3] rfl (kMv (X:=_)) (.same (Bs_bl _)) ⟨rfl,rfl⟩
 ·intro x y hxm hym hx hy
  rw [fst_5]
  have hxl:=fst_len P N n F x
  have hyl:=fst_len P N n F y
  refine AC.lbody hT hm Tryz.func47 f47_nm f47_lc f47_res f47_nt ?_
  simp only [go_sem,iEq,iLE,iLT,iTN,zb,Cf.c_mk,Cf.cs_eq,zc,zd,Cf.c_take,cf2_0,cf2_1,za,lMp,hb]
  refine ⟨by omega,by omega,?_⟩
  rw [boR_rep]
  try simp only [go_sem,iEq,iLE,iLT,iTN,zb,Cf.c_mk,Cf.cs_eq,zc,zd,Cf.c_take,cf2_0,cf2_1,za,lMp,hb]
  refine ⟨_,hx.behind (bk:=_) (kO_bl (Cf.d_bl _)) kOm_bl (Bs_bl _),?_⟩
  simp only [go_sem,iEq,iLE,iLT,iTN,zb,Cf.c_mk,Cf.cs_eq,zc,zd,Cf.c_take,cf2_0,cf2_1,za,lMp,hb]
  refine ⟨_,(rOrO (zR n) (x.fst P N n F) (by omega) (by omega)).lendD ⟨.frzS (k:=4) rfl rfl (boR_bl _),.same (Bs_bl _),trivial⟩ (boR_plain _),?_⟩
  rintro _ _ ⟨rfl,rfl⟩
  simp only [go_sem,iEq,iLE,iLT,iTN,zb,Cf.c_mk,Cf.cs_eq,zc,zd,Cf.c_take,cf2_0,cf2_1,za,lMp,hb]
  refine ⟨_,hy.behind (bk:=_) (kO_bl (Cf.d_bl _)) kOm_bl (Bs_bl _),?_⟩
  simp only [go_sem,iEq,iLE,iLT,iTN,zb,Cf.c_mk,Cf.cs_eq,zc,zd,Cf.c_take,cf2_0,cf2_1,za,lMp,hb]
  refine (rOr (orR (zR n) (x.fst P N n F)) (y.fst P N n F) (by simp only [orR_len]; omega) (by simp only [orR_len]; omega)).pd ⟨.same (Bs_bl _),.same (Bs_bl _),trivial⟩ (Bs_bl _) ?_
  simp only [go_sem,iEq,iLE,iLT,iTN,zb,Cf.c_mk,Cf.cs_eq,zc,zd,Cf.c_take,cf2_0,cf2_1,za,lMp,hb]
  exact Fin.mv (om':=kOm P N F S) [some 0,some 1,some 2,some 3] rfl (kMv (X:=_)) (.same (Bs_bl _)) ⟨rfl,rfl⟩
end Go.Proofs.YtbmedfjmccnclaaGreat.W
set_option maxRecDepth 100000
namespace Go.Proofs.YtbmedfjmccnclaaGreat.W
open Go Go.Proofs Go.Proofs.YtbmedfjmccnclaaGreat.AWP
open Int renaming reduceEq→iEq,reduceLE→iLE,reduceLT→iLT,reduceToNat→iTN
open List renaming length_map→lMp
open _root_.List renaming length_cons → za, map_cons → zc, map_nil → zd
open _root_.Int renaming reduceBEq → zb
attribute [local irreducible] xl hide aop aops aopQ qops guardP condP
theorem stFit_cf (x:Cf):stFit T 28 (.agg x.c):=by
 cases x
 rw [Cf.c_mk]
 exact ⟨_,_,rfl,rfl,rfl⟩
set_option maxHeartbeats 8000000 in
theorem rShnO {P N:List Bool} {F S:List (List Bool)} {n:Nat} (hn:n≤1000000) (hP:P.length=F.length) (hN:N.length=F.length) (hSl:S.length=F.length) (hF:FsOk n F) (hS:FsOk n S):∀ r:Cf,r.may n F.length=true→AC Tryz.prog 52 [.agg (kO n),.agg r.c] (kOm P N F S) (retP (Bs (r.shn P N n F S)) (kOm P N F S)):=by
 have hq:=kD_bl P N (Rws_bl F) (Rws_bl S) n
 have hb:(n:Int)≤281474976710656:=by omega
 have hz:(zR n).length=n:=by simp [zR]
 have hL:=fun null=>rLive (K:=n) (P:=P) (N:=N) (hN.trans hP.symm) (Rws_bl F) (Rws_bl S) n null
 rw [hP] at hL
 refine may_cases ?_ ?_ ?_ ?_ ?_ ?_
 ·rw [shn_1]
  refine AC.lbody hT hm Tryz.func52 f52_nm f52_lc f52_res f52_nt ?_
  simp only [go_sem,iEq,iLE,iLT,iTN,zb,Cf.c_mk,Cf.cs_eq,zc,zd,Cf.c_take,cf2_0,cf2_1,za,lMp,hb,ne_eq,reduceCtorEq,not_false_eq_true,implies_true,cf_put]
  refine ⟨by omega,by omega,?_⟩
  rw [boR_rep]
  try simp only [go_sem,iEq,iLE,iLT,iTN,zb,Cf.c_mk,Cf.cs_eq,zc,zd,Cf.c_take,cf2_0,cf2_1,za,lMp,hb,ne_eq,reduceCtorEq,not_false_eq_true,implies_true,cf_put]
  exact Fin.mv (om':=kOm P N F S) [some 0,some 1,some 2,some 3] rfl (kMv (X:=_)) (.frzS rfl rfl (boR_bl _)) ⟨rfl,rfl⟩
 ·rw [shn_2]
  refine AC.lbody hT hm Tryz.func52 f52_nm f52_lc f52_res f52_nt ?_
  simp only [go_sem,iEq,iLE,iLT,iTN,zb,Cf.c_mk,Cf.cs_eq,zc,zd,Cf.c_take,cf2_0,cf2_1,za,lMp,hb,ne_eq,reduceCtorEq,not_false_eq_true,implies_true,cf_put]
  refine ⟨by omega,by omega,?_⟩
  rw [boR_rep]
  try simp only [go_sem,iEq,iLE,iLT,iTN,zb,Cf.c_mk,Cf.cs_eq,zc,zd,Cf.c_take,cf2_0,cf2_1,za,lMp,hb,ne_eq,reduceCtorEq,not_false_eq_true,implies_true,cf_put]
  exact Fin.mv (om':=kOm P N F S) [some 0,some 1,some 2,some 3] rfl (kMv (X:=_)) (.frzS rfl rfl (boR_bl _)) ⟨rfl,rfl⟩
 ·intro k hk
  rw [shn_3]
  refine AC.lbody hT hm Tryz.func52 f52_nm f52_lc f52_res f52_nt ?_
  simp only [go_sem,iEq,iLE,iLT,iTN,zb,Cf.c_mk,Cf.cs_eq,zc,zd,Cf.c_take,cf2_0,cf2_1,za,lMp,hb,ne_eq,reduceCtorEq,not_false_eq_true,implies_true,cf_put]
  refine ⟨by omega,by omega,?_⟩
  rw [boR_rep]
  try simp only [go_sem,iEq,iLE,iLT,iTN,zb,Cf.c_mk,Cf.cs_eq,zc,zd,Cf.c_take,cf2_0,cf2_1,za,lMp,hb,ne_eq,reduceCtorEq,not_false_eq_true,implies_true,cf_put]
  exact Fin.mv (om':=kOm P N F S) [some 0,some 1,some 2,some 3] rfl (kMv (X:=_)) (.frzS rfl rfl (boR_bl _)) ⟨rfl,rfl⟩
 ·intro k hk
  have hkS:k<S.length:=by omega
  obtain ⟨f,hf⟩:=get_ex (l:=S) hkS
  have hgf:=bw_get hf
  rw [shn_6,List.getD_eq_getElem?_getD,hf,Option.getD_some,orR_zr (hS f (List.mem_of_getElem? hf))]
  refine AC.lbody hT hm Tryz.func52 f52_nm f52_lc f52_res f52_nt ?_
  simp only [go_sem,iEq,iLE,iLT,iTN,zb,Cf.c_mk,Cf.cs_eq,zc,zd,Cf.c_take,cf2_0,cf2_1,za,lMp,hb,hkS,hgf,Nat.div_one,Nat.mod_one,ne_eq,reduceCtorEq,not_false_eq_true,implies_true,cf_put]
  refine ⟨by omega,by omega,?_⟩
  rw [boR_rep]
  try simp only [go_sem,iEq,iLE,iLT,iTN,zb,Cf.c_mk,Cf.cs_eq,zc,zd,Cf.c_take,cf2_0,cf2_1,za,lMp,hb,hkS,hgf,Nat.div_one,Nat.mod_one,ne_eq,reduceCtorEq,not_false_eq_true,implies_true,cf_put]
  exact Fin.mv (om':=kOm P N F S) [some 0,some 1,some 2,some 3] rfl (kMv (X:=_)) (.same (Bs_bl _)) ⟨rfl,rfl⟩
 ·intro x y hxm hym hx hy
  rw [shn_4]
  have hxl:=shn_len P N n F S x
  have hyl:=shn_len P N n F S y
  have fxl:=fst_len P N n F x
  have fyl:=fst_len P N n F y
  have e1:orR (orR (zR n) (x.shn P N n F S)) (y.shn P N n F S)=orR (orR (zR n) (y.shn P N n F S)) (x.shn P N n F S):=orR_rc (by omega) (by omega)
  have e2:orR (orR (orR (zR n) (x.shn P N n F S)) (y.shn P N n F S)) (y.fst P N n F)=orR (orR (orR (zR n) (x.shn P N n F S)) (y.fst P N n F)) (y.shn P N n F S):=orR_rc (by simp only [orR_len]; omega) (by omega)
  have px:=hL false x hxm
  have ny:=hL true y hym
  rw [if_neg (by simp)] at px
  rw [if_pos rfl] at ny
  refine AC.lbody hT hm Tryz.func52 f52_nm f52_lc f52_res f52_nt ?_
  simp only [go_sem,iEq,iLE,iLT,iTN,zb,Cf.c_mk,Cf.cs_eq,zc,zd,Cf.c_take,cf2_0,cf2_1,za,lMp,hb,ne_eq,reduceCtorEq,not_false_eq_true,implies_true,cf_put]
  refine ⟨by omega,by omega,?_⟩
  rw [boR_rep]
  try simp only [go_sem,iEq,iLE,iLT,iTN,zb,Cf.c_mk,Cf.cs_eq,zc,zd,Cf.c_take,cf2_0,cf2_1,za,lMp,hb,ne_eq,reduceCtorEq,not_false_eq_true,implies_true,cf_put]
  refine ⟨stFit_cf x,?_⟩
  refine ny.pv ⟨kCv (X:=_),.same (Cf.d_bl y),.v,trivial⟩ ?_
  cases hxp:x.live false P <;> cases hyn:y.live true N
  all_goals rw [hxp] at px
  ·simp only [go_sem,iEq,iLE,iLT,iTN,zb,Cf.c_mk,Cf.cs_eq,zc,zd,Cf.c_take,cf2_0,cf2_1,za,lMp,hb,ne_eq,reduceCtorEq,not_false_eq_true,implies_true,cf_put]
   refine px.pv ⟨kCv (X:=_),.same (Cf.d_bl x),.v,trivial⟩ ?_
   simp only [go_sem,iEq,iLE,iLT,iTN,zb,Cf.c_mk,Cf.cs_eq,zc,zd,Cf.c_take,cf2_0,cf2_1,za,lMp,hb,ne_eq,reduceCtorEq,not_false_eq_true,implies_true,cf_put]
   exact Fin.mv (om':=kOm P N F S) [some 0,some 1,some 2,some 3] rfl (kMv (X:=_)) (.frzS rfl rfl (boR_bl _)) ⟨rfl,rfl⟩
  ·simp only [go_sem,iEq,iLE,iLT,iTN,zb,Cf.c_mk,Cf.cs_eq,zc,zd,Cf.c_take,cf2_0,cf2_1,za,lMp,hb,ne_eq,reduceCtorEq,not_false_eq_true,implies_true,cf_put]
   refine ⟨_,hx.behind (bk:=_) (kO_bl (Cf.d_bl _)) kOm_bl (Bs_bl _),?_⟩
   rintro _ _ ⟨rfl,rfl⟩
   simp only [go_sem,iEq,iLE,iLT,iTN,zb,Cf.c_mk,Cf.cs_eq,zc,zd,Cf.c_take,cf2_0,cf2_1,za,lMp,hb,ne_eq,reduceCtorEq,not_false_eq_true,implies_true,cf_put]
   refine ⟨_,(rOrO (zR n) (x.shn P N n F S) (by omega) (by omega)).lendD ⟨.frzS (k:=4) rfl rfl (boR_bl _),.same (Bs_bl _),trivial⟩ (boR_plain _),?_⟩
   rintro _ _ ⟨rfl,rfl⟩
   simp only [go_sem,iEq,iLE,iLT,iTN,zb,Cf.c_mk,Cf.cs_eq,zc,zd,Cf.c_take,cf2_0,cf2_1,za,lMp,hb,ne_eq,reduceCtorEq,not_false_eq_true,implies_true,cf_put]
   refine px.pv ⟨kCv (X:=_),.same (Cf.d_bl x),.v,trivial⟩ ?_
   simp only [go_sem,iEq,iLE,iLT,iTN,zb,Cf.c_mk,Cf.cs_eq,zc,zd,Cf.c_take,cf2_0,cf2_1,za,lMp,hb,ne_eq,reduceCtorEq,not_false_eq_true,implies_true,cf_put]
   exact Fin.mv (om':=kOm P N F S) [some 0,some 1,some 2,some 3] rfl (kMv (X:=_)) (.same (Bs_bl _)) ⟨rfl,rfl⟩
  ·simp only [go_sem,iEq,iLE,iLT,iTN,zb,Cf.c_mk,Cf.cs_eq,zc,zd,Cf.c_take,cf2_0,cf2_1,za,lMp,hb,ne_eq,reduceCtorEq,not_false_eq_true,implies_true,cf_put]
   refine px.pv ⟨kCv (X:=_),.same (Cf.d_bl x),.v,trivial⟩ ?_
   simp only [go_sem,iEq,iLE,iLT,iTN,zb,Cf.c_mk,Cf.cs_eq,zc,zd,Cf.c_take,cf2_0,cf2_1,za,lMp,hb,ne_eq,reduceCtorEq,not_false_eq_true,implies_true,cf_put]
   refine ⟨_,hy.behind (bk:=_) (kO_bl (Cf.d_bl _)) kOm_bl (Bs_bl _),?_⟩
   rintro _ _ ⟨rfl,rfl⟩
   simp only [go_sem,iEq,iLE,iLT,iTN,zb,Cf.c_mk,Cf.cs_eq,zc,zd,Cf.c_take,cf2_0,cf2_1,za,lMp,hb,ne_eq,reduceCtorEq,not_false_eq_true,implies_true,cf_put]
   refine ⟨_,(rOrO (zR n) (y.shn P N n F S) (by omega) (by omega)).lendD ⟨.frzS (k:=4) rfl rfl (boR_bl _),.same (Bs_bl _),trivial⟩ (boR_plain _),?_⟩
   rintro _ _ ⟨rfl,rfl⟩
   simp only [go_sem,iEq,iLE,iLT,iTN,zb,Cf.c_mk,Cf.cs_eq,zc,zd,Cf.c_take,cf2_0,cf2_1,za,lMp,hb,ne_eq,reduceCtorEq,not_false_eq_true,implies_true,cf_put]
   exact Fin.mv (om':=kOm P N F S) [some 0,some 1,some 2,some 3] rfl (kMv (X:=_)) (.same (Bs_bl _)) ⟨rfl,rfl⟩
  ·simp only [go_sem,iEq,iLE,iLT,iTN,zb,Cf.c_mk,Cf.cs_eq,zc,zd,Cf.c_take,cf2_0,cf2_1,za,lMp,hb,ne_eq,reduceCtorEq,not_false_eq_true,implies_true,cf_put]
   refine ⟨_,hx.behind (bk:=_) (kO_bl (Cf.d_bl _)) kOm_bl (Bs_bl _),?_⟩
   rintro _ _ ⟨rfl,rfl⟩
   simp only [go_sem,iEq,iLE,iLT,iTN,zb,Cf.c_mk,Cf.cs_eq,zc,zd,Cf.c_take,cf2_0,cf2_1,za,lMp,hb,ne_eq,reduceCtorEq,not_false_eq_true,implies_true,cf_put]
   refine ⟨_,(rOrO (zR n) (x.shn P N n F S) (by omega) (by omega)).lendD ⟨.frzS (k:=4) rfl rfl (boR_bl _),.same (Bs_bl _),trivial⟩ (boR_plain _),?_⟩
   rintro _ _ ⟨rfl,rfl⟩
   simp only [go_sem,iEq,iLE,iLT,iTN,zb,Cf.c_mk,Cf.cs_eq,zc,zd,Cf.c_take,cf2_0,cf2_1,za,lMp,hb,ne_eq,reduceCtorEq,not_false_eq_true,implies_true,cf_put]
   refine px.pv ⟨kCv (X:=_),.same (Cf.d_bl x),.v,trivial⟩ ?_
   simp only [go_sem,iEq,iLE,iLT,iTN,zb,Cf.c_mk,Cf.cs_eq,zc,zd,Cf.c_take,cf2_0,cf2_1,za,lMp,hb,ne_eq,reduceCtorEq,not_false_eq_true,implies_true,cf_put]
   refine ⟨_,hy.behind (bk:=_) (kO_bl (Cf.d_bl _)) kOm_bl (Bs_bl _),?_⟩
   rintro _ _ ⟨rfl,rfl⟩
   simp only [go_sem,iEq,iLE,iLT,iTN,zb,Cf.c_mk,Cf.cs_eq,zc,zd,Cf.c_take,cf2_0,cf2_1,za,lMp,hb,ne_eq,reduceCtorEq,not_false_eq_true,implies_true,cf_put]
   refine (rOr (orR (zR n) (x.shn P N n F S)) (y.shn P N n F S) (by simp only [orR_len]; omega) (by simp only [orR_len]; omega)).pd ⟨.same (Bs_bl _),.same (Bs_bl _),trivial⟩ (Bs_bl _) ?_
   simp only [go_sem,iEq,iLE,iLT,iTN,zb,Cf.c_mk,Cf.cs_eq,zc,zd,Cf.c_take,cf2_0,cf2_1,za,lMp,hb,ne_eq,reduceCtorEq,not_false_eq_true,implies_true,cf_put]
   exact Fin.mv (om':=kOm P N F S) [some 0,some 1,some 2,some 3] rfl (kMv (X:=_)) (.eq (congrArg Bs (e1)) (Bs_bl _)) ⟨rfl,rfl⟩
 ·intro x y hxm hym hx hy
  rw [shn_5]
  have hxl:=shn_len P N n F S x
  have hyl:=shn_len P N n F S y
  have fxl:=fst_len P N n F x
  have fyl:=fst_len P N n F y
  have e1:orR (orR (zR n) (x.shn P N n F S)) (y.shn P N n F S)=orR (orR (zR n) (y.shn P N n F S)) (x.shn P N n F S):=orR_rc (by omega) (by omega)
  have e2:orR (orR (orR (zR n) (x.shn P N n F S)) (y.shn P N n F S)) (y.fst P N n F)=orR (orR (orR (zR n) (x.shn P N n F S)) (y.fst P N n F)) (y.shn P N n F S):=orR_rc (by simp only [orR_len]; omega) (by omega)
  have nx:=hL true x hxm
  have ny:=hL true y hym
  rw [if_pos rfl] at nx ny
  refine AC.lbody hT hm Tryz.func52 f52_nm f52_lc f52_res f52_nt ?_
  simp only [go_sem,iEq,iLE,iLT,iTN,zb,Cf.c_mk,Cf.cs_eq,zc,zd,Cf.c_take,cf2_0,cf2_1,za,lMp,hb,ne_eq,reduceCtorEq,not_false_eq_true,implies_true,cf_put]
  refine ⟨by omega,by omega,?_⟩
  rw [boR_rep]
  try simp only [go_sem,iEq,iLE,iLT,iTN,zb,Cf.c_mk,Cf.cs_eq,zc,zd,Cf.c_take,cf2_0,cf2_1,za,lMp,hb,ne_eq,reduceCtorEq,not_false_eq_true,implies_true,cf_put]
  refine ⟨stFit_cf x,?_⟩
  refine ⟨_,hx.behind (bk:=_) (kO_bl (Cf.d_bl _)) kOm_bl (Bs_bl _),?_⟩
  rintro _ _ ⟨rfl,rfl⟩
  simp only [go_sem,iEq,iLE,iLT,iTN,zb,Cf.c_mk,Cf.cs_eq,zc,zd,Cf.c_take,cf2_0,cf2_1,za,lMp,hb,ne_eq,reduceCtorEq,not_false_eq_true,implies_true,cf_put]
  refine ⟨_,(rOrO (zR n) (x.shn P N n F S) (by omega) (by omega)).lendD ⟨.frzS (k:=4) rfl rfl (boR_bl _),.same (Bs_bl _),trivial⟩ (boR_plain _),?_⟩
  rintro _ _ ⟨rfl,rfl⟩
  simp only [go_sem,iEq,iLE,iLT,iTN,zb,Cf.c_mk,Cf.cs_eq,zc,zd,Cf.c_take,cf2_0,cf2_1,za,lMp,hb,ne_eq,reduceCtorEq,not_false_eq_true,implies_true,cf_put]
  refine ⟨_,hy.behind (bk:=_) (kO_bl (Cf.d_bl _)) kOm_bl (Bs_bl _),?_⟩
  rintro _ _ ⟨rfl,rfl⟩
  simp only [go_sem,iEq,iLE,iLT,iTN,zb,Cf.c_mk,Cf.cs_eq,zc,zd,Cf.c_take,cf2_0,cf2_1,za,lMp,hb,ne_eq,reduceCtorEq,not_false_eq_true,implies_true,cf_put]
  refine (rOr (orR (zR n) (x.shn P N n F S)) (y.shn P N n F S) (by simp only [orR_len]; omega) (by simp only [orR_len]; omega)).pd ⟨.same (Bs_bl _),.same (Bs_bl _),trivial⟩ (Bs_bl _) ?_
  simp only [go_sem,iEq,iLE,iLT,iTN,zb,Cf.c_mk,Cf.cs_eq,zc,zd,Cf.c_take,cf2_0,cf2_1,za,lMp,hb,ne_eq,reduceCtorEq,not_false_eq_true,implies_true,cf_put]
  refine nx.pv ⟨kCv (X:=_),.same (Cf.d_bl x),.v,trivial⟩ ?_
  cases hxn:x.live true N <;> cases hyn:y.live true N
  all_goals rw [hyn] at ny
  ·simp only [go_sem,iEq,iLE,iLT,iTN,zb,Cf.c_mk,Cf.cs_eq,zc,zd,Cf.c_take,cf2_0,cf2_1,za,lMp,hb,ne_eq,reduceCtorEq,not_false_eq_true,implies_true,cf_put]
   refine ny.pv ⟨kCv (X:=_),.same (Cf.d_bl y),.v,trivial⟩ ?_
   simp only [go_sem,iEq,iLE,iLT,iTN,zb,Cf.c_mk,Cf.cs_eq,zc,zd,Cf.c_take,cf2_0,cf2_1,za,lMp,hb,ne_eq,reduceCtorEq,not_false_eq_true,implies_true,cf_put]
   exact Fin.mv (om':=kOm P N F S) [some 0,some 1,some 2,some 3] rfl (kMv (X:=_)) (.same (Bs_bl _)) ⟨rfl,rfl⟩
  ·simp only [go_sem,iEq,iLE,iLT,iTN,zb,Cf.c_mk,Cf.cs_eq,zc,zd,Cf.c_take,cf2_0,cf2_1,za,lMp,hb,ne_eq,reduceCtorEq,not_false_eq_true,implies_true,cf_put]
   refine ny.pv ⟨kCv (X:=_),.same (Cf.d_bl y),.v,trivial⟩ ?_
   simp only [go_sem,iEq,iLE,iLT,iTN,zb,Cf.c_mk,Cf.cs_eq,zc,zd,Cf.c_take,cf2_0,cf2_1,za,lMp,hb,ne_eq,reduceCtorEq,not_false_eq_true,implies_true,cf_put]
   refine ⟨_,(rBegO (S:=S) hn hP hN hF x hxm).behind (bk:=_) (kO_bl (Cf.d_bl _)) kOm_bl (Bs_bl _),?_⟩
   rintro _ _ ⟨rfl,rfl⟩
   simp only [go_sem,iEq,iLE,iLT,iTN,zb,Cf.c_mk,Cf.cs_eq,zc,zd,Cf.c_take,cf2_0,cf2_1,za,lMp,hb,ne_eq,reduceCtorEq,not_false_eq_true,implies_true,cf_put]
   refine (rOr (orR (orR (zR n) (x.shn P N n F S)) (y.shn P N n F S)) (x.fst P N n F) (by simp only [orR_len]; omega) (by simp only [orR_len]; omega)).pd ⟨.same (Bs_bl _),.same (Bs_bl _),trivial⟩ (Bs_bl _) ?_
   simp only [go_sem,iEq,iLE,iLT,iTN,zb,Cf.c_mk,Cf.cs_eq,zc,zd,Cf.c_take,cf2_0,cf2_1,za,lMp,hb,ne_eq,reduceCtorEq,not_false_eq_true,implies_true,cf_put]
   exact Fin.mv (om':=kOm P N F S) [some 0,some 1,some 2,some 3] rfl (kMv (X:=_)) (.same (Bs_bl _)) ⟨rfl,rfl⟩
  ·simp only [go_sem,iEq,iLE,iLT,iTN,zb,Cf.c_mk,Cf.cs_eq,zc,zd,Cf.c_take,cf2_0,cf2_1,za,lMp,hb,ne_eq,reduceCtorEq,not_false_eq_true,implies_true,cf_put]
   refine ⟨_,(rBegO (S:=S) hn hP hN hF y hym).behind (bk:=_) (kO_bl (Cf.d_bl _)) kOm_bl (Bs_bl _),?_⟩
   rintro _ _ ⟨rfl,rfl⟩
   simp only [go_sem,iEq,iLE,iLT,iTN,zb,Cf.c_mk,Cf.cs_eq,zc,zd,Cf.c_take,cf2_0,cf2_1,za,lMp,hb,ne_eq,reduceCtorEq,not_false_eq_true,implies_true,cf_put]
   refine (rOr (orR (orR (zR n) (x.shn P N n F S)) (y.shn P N n F S)) (y.fst P N n F) (by simp only [orR_len]; omega) (by simp only [orR_len]; omega)).pd ⟨.same (Bs_bl _),.same (Bs_bl _),trivial⟩ (Bs_bl _) ?_
   simp only [go_sem,iEq,iLE,iLT,iTN,zb,Cf.c_mk,Cf.cs_eq,zc,zd,Cf.c_take,cf2_0,cf2_1,za,lMp,hb,ne_eq,reduceCtorEq,not_false_eq_true,implies_true,cf_put]
   refine ny.pv ⟨kCv (X:=_),.same (Cf.d_bl y),.v,trivial⟩ ?_
   simp only [go_sem,iEq,iLE,iLT,iTN,zb,Cf.c_mk,Cf.cs_eq,zc,zd,Cf.c_take,cf2_0,cf2_1,za,lMp,hb,ne_eq,reduceCtorEq,not_false_eq_true,implies_true,cf_put]
   exact Fin.mv (om':=kOm P N F S) [some 0,some 1,some 2,some 3] rfl (kMv (X:=_)) (.eq (congrArg Bs (e2)) (Bs_bl _)) ⟨rfl,rfl⟩
  ·simp only [go_sem,iEq,iLE,iLT,iTN,zb,Cf.c_mk,Cf.cs_eq,zc,zd,Cf.c_take,cf2_0,cf2_1,za,lMp,hb,ne_eq,reduceCtorEq,not_false_eq_true,implies_true,cf_put]
   refine ⟨_,(rBegO (S:=S) hn hP hN hF y hym).behind (bk:=_) (kO_bl (Cf.d_bl _)) kOm_bl (Bs_bl _),?_⟩
   rintro _ _ ⟨rfl,rfl⟩
   simp only [go_sem,iEq,iLE,iLT,iTN,zb,Cf.c_mk,Cf.cs_eq,zc,zd,Cf.c_take,cf2_0,cf2_1,za,lMp,hb,ne_eq,reduceCtorEq,not_false_eq_true,implies_true,cf_put]
   refine (rOr (orR (orR (zR n) (x.shn P N n F S)) (y.shn P N n F S)) (y.fst P N n F) (by simp only [orR_len]; omega) (by simp only [orR_len]; omega)).pd ⟨.same (Bs_bl _),.same (Bs_bl _),trivial⟩ (Bs_bl _) ?_
   simp only [go_sem,iEq,iLE,iLT,iTN,zb,Cf.c_mk,Cf.cs_eq,zc,zd,Cf.c_take,cf2_0,cf2_1,za,lMp,hb,ne_eq,reduceCtorEq,not_false_eq_true,implies_true,cf_put]
   refine ny.pv ⟨kCv (X:=_),.same (Cf.d_bl y),.v,trivial⟩ ?_
   simp only [go_sem,iEq,iLE,iLT,iTN,zb,Cf.c_mk,Cf.cs_eq,zc,zd,Cf.c_take,cf2_0,cf2_1,za,lMp,hb,ne_eq,reduceCtorEq,not_false_eq_true,implies_true,cf_put]
   refine ⟨_,(rBegO (S:=S) hn hP hN hF x hxm).behind (bk:=_) (kO_bl (Cf.d_bl _)) kOm_bl (Bs_bl _),?_⟩
   rintro _ _ ⟨rfl,rfl⟩
   simp only [go_sem,iEq,iLE,iLT,iTN,zb,Cf.c_mk,Cf.cs_eq,zc,zd,Cf.c_take,cf2_0,cf2_1,za,lMp,hb,ne_eq,reduceCtorEq,not_false_eq_true,implies_true,cf_put]
   refine (rOr (orR (orR (orR (zR n) (x.shn P N n F S)) (y.shn P N n F S)) (y.fst P N n F)) (x.fst P N n F) (by simp only [orR_len]; omega) (by simp only [orR_len]; omega)).pd ⟨.same (Bs_bl _),.same (Bs_bl _),trivial⟩ (Bs_bl _) ?_
   simp only [go_sem,iEq,iLE,iLT,iTN,zb,Cf.c_mk,Cf.cs_eq,zc,zd,Cf.c_take,cf2_0,cf2_1,za,lMp,hb,ne_eq,reduceCtorEq,not_false_eq_true,implies_true,cf_put]
   exact Fin.mv (om':=kOm P N F S) [some 0,some 1,some 2,some 3] rfl (kMv (X:=_)) (.eq (congrArg Bs (congrArg (orR · (x.fst P N n F)) e2)) (Bs_bl _)) ⟨rfl,rfl⟩
end Go.Proofs.YtbmedfjmccnclaaGreat.W
set_option maxRecDepth 100000
namespace Go.Proofs.YtbmedfjmccnclaaGreat.W
open Go Go.Proofs Go.Proofs.YtbmedfjmccnclaaGreat.AWP
open Int renaming reduceEq→iEq,reduceLE→iLE,reduceLT→iLT,reduceToNat→iTN
open List renaming length_map→lMp
open _root_.List renaming replicate → za, getD_cons_succ → zb, getD_cons_zero → zc, getElem?_set_ne → ze, mem_of_getElem? → zf
open _root_.Nat renaming zero_le → zd, zero_lt_one → zg, div_one → zh, mod_one → zi
attribute [local irreducible] xl hide aop aops aopQ qops guardP condP
abbrev zKc:List D:=[nilS,nilS,nilS,nilS,.v (.int .i64 0)]
abbrev zKo:Ob:=.var 93 zKc
abbrev kVar (n:Nat):Ob:=.var 93 (kO n)
abbrev omK (P N:List Bool) (F S:List (List Bool)) (n:Nat):List Ob:=kOm P N F S++[zKo,kVar n]
theorem bwR_set (l:List (List Bool)) (i:Nat) (b:List Bool):(bwR l).set i [Bs b]=bwR (l.set i b):=List.map_set.symm
def ofJ (l n:Nat) (L:Nat→Bool) (x:St):Prop:=
 ∃ a b c:Nat,x.om[0]? = some zKo∧0<c∧(L 1=true→x.env.getD 16 .any=.own a∧x.om[a]? = some (bOb (zR l)))∧(L 3=true→x.env.getD 18 .any=.own b∧x.om[b]? = some (bOb (zR l)))∧(L 1=true→L 3=true→a≠b) ∧
  (L 7=true→L 1=true∧L 3=true∧x.env.getD 22 .any=.agg [.own a,.own b,nilS,nilS,.i n])∧(L 9=true→L 7=true∧L 8=true) ∧
  (L 8=true→x.env.getD 4 .any=.ref c 0∧x.om[c]? = some (.var 93 (if L 9=true then [.own a,.own b,nilS,nilS,.i n] else zKc)))
theorem ofJ_mono {l n:Nat} {L L':Nat→Bool} {e e':List D} {om:List Ob} (h1:L' 1=L 1) (h3:L' 3=L 3) (h7:L' 7=L 7) (h8:L' 8=L 8) (h9:L' 9=L 9) (e16:e'.getD 16 .any=e.getD 16 .any) (e18:e'.getD 18 .any=e.getD 18 .any) (e22:e'.getD 22 .any=e.getD 22 .any) (e4:e'.getD 4 .any=e.getD 4 .any)
  (h:ofJ l n L ⟨e,om⟩):ofJ l n L' ⟨e',om⟩:=by
 unfold ofJ at h ⊢
 dsimp only at h ⊢
 rw [h1,h3,h7,h8,h9,e16,e18,e22,e4]
 exact h
theorem gl_app {om:List Ob} {k:Nat} {o x:Ob} (h:om[k]? = some o):(om++[x])[k]? = some o:=by rw [List.getElem?_append_left (List.getElem?_eq_some_iff.1 h).1]; exact h
theorem gl_new (om:List Ob) (x:Ob):(om++[x])[om.length]? = some x:=by rw [List.getElem?_append_right (Nat.le_refl _),Nat.sub_self]; rfl
def ofV (g:Gr) (i:Nat):D:=([.i g.defs.length,.any,.i g.defs.length,.any,.pel g.c,Strs g.kinds,.i g.kinds.length,.any,.any,.any]:List D).getD i .any
set_option maxHeartbeats 16000000 in
theorem rOfC (g:Gr) (hg:mayG g=true):AP Tryz.prog 46 [.agg g.c] (.agg (kD (lkP g) (lkN g) (Rws (lkF g)) (Rws (lkSh g)) g.kinds.length)):=by
 obtain ⟨m1,m2,m3,m4,m5,m6,m7,m8⟩:=mayG_facts hg
 have hb:(g.defs.length:Int)≤281474976710656:=by omega
 have hb2:(g.kinds.length:Int)≤281474976710656:=by omega
 have hb0:(0:Int)≤g.defs.length:=by omega
 have hq:∀ om (F:Nat→Bool) (kk:List (Option Nat)),Cv om F kk (.pel g.c) (.pel g.c):=fun om F kk=>.same (Gr.pel_bl g)
 refine AC.lbody hT hm Tryz.func46 f46_nm f46_lc f46_res f46_nt ?_
 simp only [go_sem,iEq,iLE,iLT,iTN,gr_take,gr_c_len,lMp]
 refine free_genJ (ofV g) [1,2,3] [1,3,7,8,9] (ofJ g.defs.length g.kinds.length) (by rfl) ⟨1,1,1,rfl,zg,fun h=>(by cases h),fun h=>(by cases h),fun h=>(by cases h),fun h=>(by cases h),fun h=>(by cases h),fun h=>(by cases h)⟩ ?_ ?_ ?_
 ·intro L L' e e' om' hL he hJ
  exact ofJ_mono (hL 1 (by simp)) (hL 3 (by simp)) (hL 7 (by simp)) (hL 8 (by simp)) (hL 9 (by simp)) (he 1 (by simp) 16 rfl) (he 3 (by simp) 18 rfl) (he 7 (by simp) 22 rfl) (he 8 (by simp) 4 rfl) hJ
 ·intro i o hio L env' om' hlen hkeep hds hL hdep hJ K' hK1 hK2
  have k1:env'.getD 1 .any=.pel g.c:=hkeep 1 (by simp)
  have k2:env'.getD 2 .any=.ref 0 0:=hkeep 2 (by simp)
  have k3:env'.getD 3 .any=.i g.defs.length:=hkeep 3 (by simp)
  have hlen':env'.length=139:=hlen
  have hi:i<10:=(List.getElem?_eq_some_iff.1 hio).1
  match i,hi with
  | 0,_=>cases hio; simp only [go_sem,iEq,iLE,iLT,iTN,evD_tmp,k3]; exact hK1 rfl
  | 1,_=>
   cases hio
   have d:=hdep 0 (by decide) rfl 15 rfl
   obtain ⟨a,b,c,j0,jc,j1,j3,jn,j7,j9,j8⟩:=hJ
   dsimp only at j0 j1 j3 j7 j8
   simp only [go_sem,iEq,iLE,iLT,iTN,evD_tmp,d,ofV,zb,zc,hb,hb0]
   refine ⟨by omega,by omega,?_⟩
   rw [boR_rep]
   have h7:L 7=false:=by
    cases h:L 7 with
    | false=>rfl
    | true=>rw [(j7 h).1] at hL; cases hL
   have h9:L 9=false:=by
    cases h:L 9 with
    | false=>rfl
    | true=>rw [(j9 h).1] at h7; cases h7
   have e8:L 8=true→om'[c]? = some zKo:=by
    intro h
    have:=(j8 h).2
    rw [h9,if_neg (by simp)] at this
    exact this
   refine hK2 rfl _ (by simp [hlen']) (fun k hk=>getD_setN fun e=>hk (by rw [← e]; rfl)) ⟨om'.length,b,c,gl_app j0,jc,fun _=>⟨getD_setS (by omega),gl_new _ _⟩,fun h=>⟨(getD_setN (by omega)).trans (j3 h).1,gl_app (j3 h).2⟩,fun _ h=>?_,fun h=>(by rw [show L 7=true from h] at h7; cases h7),j9,fun h=>⟨(getD_setN (by omega)).trans (j8 h).1,by
    show _=some (Ob.var _ (if L 9=true then _ else zKc))
    rw [h9]
    exact gl_app (e8 h)⟩⟩
   have:=(List.getElem?_eq_some_iff.1 (j3 h).2).1
   omega
  | 2,_=>cases hio; simp only [go_sem,iEq,iLE,iLT,iTN,evD_tmp,k3]; exact hK1 rfl
  | 3,_=>
   cases hio
   have d:=hdep 2 (by decide) rfl 17 rfl
   obtain ⟨a,b,c,j0,jc,j1,j3,jn,j7,j9,j8⟩:=hJ
   dsimp only at j0 j1 j3 j7 j8
   simp only [go_sem,iEq,iLE,iLT,iTN,evD_tmp,d,ofV,zb,zc,hb,hb0]
   refine ⟨by omega,by omega,?_⟩
   rw [boR_rep]
   have h7:L 7=false:=by
    cases h:L 7 with
    | false=>rfl
    | true=>rw [(j7 h).2.1] at hL; cases hL
   have h9:L 9=false:=by
    cases h:L 9 with
    | false=>rfl
    | true=>rw [(j9 h).1] at h7; cases h7
   have e8:L 8=true→om'[c]? = some zKo:=by
    intro h
    have:=(j8 h).2
    rw [h9,if_neg (by simp)] at this
    exact this
   refine hK2 rfl _ (by simp [hlen']) (fun k hk=>getD_setN fun e=>hk (by rw [← e]; rfl)) ⟨a,om'.length,c,gl_app j0,jc,fun h=>⟨(getD_setN (by omega)).trans (j1 h).1,gl_app (j1 h).2⟩,fun _=>⟨getD_setS (by omega),gl_new _ _⟩,fun h _=>?_,fun h=>(by rw [show L 7=true from h] at h7; cases h7),j9,fun h=>⟨(getD_setN (by omega)).trans (j8 h).1,by
    show _=some (Ob.var _ (if L 9=true then _ else zKc))
    rw [h9]
    exact gl_app (e8 h)⟩⟩
   have:=(List.getElem?_eq_some_iff.1 (j1 h).2).1
   omega
  | 4,_=>cases hio; simp only [go_sem,iEq,iLE,iLT,iTN,evD_tmp,k1,gr_take,gr_c_len]; exact hK1 rfl
  | 5,_=>
   cases hio
   have d:=hdep 4 (by decide) rfl 19 rfl
   simp only [go_sem,iEq,iLE,iLT,iTN,evD_tmp,d,ofV,zb,zc,gr_take,gr_c_len]
   exact hK1 rfl
  | 6,_=>
   cases hio
   have d:=hdep 5 (by decide) rfl 20 rfl
   simp only [go_sem,iEq,iLE,iLT,iTN,evD_tmp,d,ofV,zb,zc,lMp]
   exact hK1 rfl
  | 7,_=>
   cases hio
   have h1:L 1=true:=hds 1 (by decide)
   have h3:L 3=true:=hds 3 (by decide)
   have d:=hdep 6 (by decide) rfl 21 rfl
   obtain ⟨a,b,c,j0,jc,j1,j3,jn,j7,j9,j8⟩:=hJ
   dsimp only at j0 j1 j3 j7 j8
   have d1:=(j1 h1).1
   have d3:=(j3 h3).1
   simp only [go_sem,iEq,iLE,iLT,iTN,evD_tmp,d,d1,d3,ofV,zb,zc]
   have h9:L 9=false:=by
    cases h:L 9 with
    | false=>rfl
    | true=>rw [(j9 h).1] at hL; cases hL
   exact hK2 rfl _ (by simp [hlen']) (fun k hk=>getD_setN fun e=>hk (by rw [← e]; rfl)) ⟨a,b,c,j0,jc,fun h=>⟨(getD_setN (by omega)).trans (j1 h1).1,(j1 h1).2⟩,fun h=>⟨(getD_setN (by omega)).trans (j3 h3).1,(j3 h3).2⟩,fun _ _=>jn h1 h3,fun _=>⟨h1,h3,getD_setS (by omega)⟩,fun h=>(by rw [show L 9=true from h] at h9; cases h9),fun h=>⟨(getD_setN (by omega)).trans (j8 h).1,(j8 h).2⟩⟩
  | 8,_=>
   cases hio
   obtain ⟨a,b,c,j0,jc,j1,j3,jn,j7,j9,j8⟩:=hJ
   dsimp only at j0 j1 j3 j7 j8
   simp only [go_sem,iEq,iLE,iLT,iTN,evD_tmp]
   have h9:L 9=false:=by
    cases h:L 9 with
    | false=>rfl
    | true=>rw [(j9 h).2] at hL; cases hL
   refine hK2 rfl _ (by simp [hlen']) (fun k hk=>getD_setN fun e=>hk (by rw [← e]; rfl)) ⟨a,b,om'.length,gl_app j0,by have:=(List.getElem?_eq_some_iff.1 j0).1; omega,fun h=>⟨(getD_setN (by omega)).trans (j1 h).1,gl_app (j1 h).2⟩,fun h=>⟨(getD_setN (by omega)).trans (j3 h).1,gl_app (j3 h).2⟩,jn,fun h=>⟨(j7 h).1,(j7 h).2.1,(getD_setN (by omega)).trans (j7 h).2.2⟩,fun h=>(by rw [show L 9=true from h] at h9; cases h9),fun _=>⟨getD_setS (by omega),?_⟩⟩
   show _=some (Ob.var _ (if L 9=true then _ else zKc))
   rw [h9]
   exact gl_new _ _
  | 9,_=>
   cases hio
   have h7:L 7=true:=hds 7 (by decide)
   have h8:L 8=true:=hds 8 (by decide)
   obtain ⟨a,b,c,j0,jc,j1,j3,jn,j7,j9,j8⟩:=hJ
   dsimp only at j0 j1 j3 j7 j8
   obtain ⟨h1,h3,d7⟩:=j7 h7
   obtain ⟨d8,d8'⟩:=j8 h8
   rw [show L 9=false from hL,if_neg (by simp)] at d8'
   have hca:c≠a:=fun e=>by rw [e,(j1 h1).2] at d8'; cases d8'
   have hcb:c≠b:=fun e=>by rw [e,(j3 h3).2] at d8'; cases d8'
   have hcl:=(List.getElem?_eq_some_iff.1 d8').1
   simp only [go_sem,iEq,iLE,iLT,iTN,evD_tmp,d7,d8,d8']
   refine hK2 rfl _ hlen' (fun k hk=>rfl) ⟨a,b,c,by rw [ze (by omega)]; exact j0,jc,fun h=>⟨(j1 h1).1,by rw [ze hca]; exact (j1 h1).2⟩,fun h=>⟨(j3 h3).1,by rw [ze hcb]; exact (j3 h3).2⟩,fun _ _=>jn h1 h3,fun _=>⟨h1,h3,d7⟩,fun _=>⟨h7,h8⟩,fun _=>⟨d8,?_⟩⟩
   rw [List.getElem?_set_self hcl]
   rfl
  | i+10,hi=>exact absurd hi (by omega)
 intro L env' om' hall hlen hkeep hV hJ
 have k1:env'.getD 1 .any=.pel g.c:=hkeep 1 (by simp)
 have k2:env'.getD 2 .any=.ref 0 0:=hkeep 2 (by simp)
 have k3:env'.getD 3 .any=.i g.defs.length:=hkeep 3 (by simp)
 have hlen':env'.length=139:=hlen
 have hall':∀ i,i<10→L i=true:=hall
 obtain ⟨a,b,c,j0,jc,j1,j3,jn,j7,j9,j8⟩:=hJ
 dsimp only at j0 j1 j3 j7 j8
 have i1:=(j1 (hall' 1 (by omega))).2
 have i3:=(j3 (hall' 3 (by omega))).2
 have hab:=jn (hall' 1 (by omega)) (hall' 3 (by omega))
 obtain ⟨k4,i8⟩:=j8 (hall' 8 (by omega))
 rw [hall' 9 (by omega),if_pos rfl] at i8
 have hca:c≠a:=fun e=>by rw [e,i1] at i8; cases i8
 have hcb:c≠b:=fun e=>by rw [e,i3] at i8; cases i8
 have h0a:0≠a:=fun e=>by rw [← e,j0] at i1; cases i1
 have h0b:0≠b:=fun e=>by rw [← e,j0] at i3; cases i3
 clear j1 j3 jn j7 j9 j8 hV hall hall' hkeep
 simp only [go_sem,iEq,iLE,iLT,iTN]
 refine xl_loopM hT hm (fun i:Nat=>⟨f46_i8 (.pel g.c) (.ref 4 0) (.i g.defs.length) (.ref 5 0) (.i i),omK (zR g.defs.length) (zR g.defs.length) (za i (zR g.kinds.length)) (za i (zR g.kinds.length)) g.kinds.length⟩)
  (fun i=>i≤g.defs.length) (fun i=>g.defs.length - i) 0 (zd _) ?_ ?_
 ·refine Mv.perm (n:=6) (fun j=>if j=0 then some a else if j=1 then some b else if j=4 then some 0 else if j=5 then some c else none) ?_ ?_ rfl ?_ (by simp [hlen',f46_i8]) ?_
  ·intro i j k hi hj h1 h2
   by_cases e0:i=0
   ·rw [if_pos e0] at h1; cases h1
    by_cases f0:j=0
    ·omega
    rw [if_neg f0] at h2
    by_cases f1:j=1
    ·rw [if_pos f1] at h2; cases h2; omega
    rw [if_neg f1] at h2
    by_cases f4:j=4
    ·rw [if_pos f4] at h2; cases h2; omega
    rw [if_neg f4] at h2
    by_cases f5:j=5
    ·rw [if_pos f5] at h2; cases h2; omega
    ·rw [if_neg f5] at h2; cases h2
   rw [if_neg e0] at h1
   by_cases e1:i=1
   ·rw [if_pos e1] at h1; cases h1
    by_cases f0:j=0
    ·rw [if_pos f0] at h2; cases h2; omega
    rw [if_neg f0] at h2
    by_cases f1:j=1
    ·omega
    rw [if_neg f1] at h2
    by_cases f4:j=4
    ·rw [if_pos f4] at h2; cases h2; omega
    rw [if_neg f4] at h2
    by_cases f5:j=5
    ·rw [if_pos f5] at h2; cases h2; omega
    ·rw [if_neg f5] at h2; cases h2
   rw [if_neg e1] at h1
   by_cases e4:i=4
   ·rw [if_pos e4] at h1; cases h1
    by_cases f0:j=0
    ·rw [if_pos f0] at h2; cases h2; omega
    rw [if_neg f0] at h2
    by_cases f1:j=1
    ·rw [if_pos f1] at h2; cases h2; omega
    rw [if_neg f1] at h2
    by_cases f4:j=4
    ·omega
    rw [if_neg f4] at h2
    by_cases f5:j=5
    ·rw [if_pos f5] at h2; cases h2; omega
    ·rw [if_neg f5] at h2; cases h2
   rw [if_neg e4] at h1
   by_cases e5:i=5
   ·rw [if_pos e5] at h1; cases h1
    by_cases f0:j=0
    ·rw [if_pos f0] at h2; cases h2; omega
    rw [if_neg f0] at h2
    by_cases f1:j=1
    ·rw [if_pos f1] at h2; cases h2; omega
    rw [if_neg f1] at h2
    by_cases f4:j=4
    ·rw [if_pos f4] at h2; cases h2; omega
    rw [if_neg f4] at h2
    by_cases f5:j=5
    ·omega
    ·rw [if_neg f5] at h2; cases h2
   ·rw [if_neg e5] at h1; cases h1
  ·intro j hj; omega
  ·intro ks hk j o ho
   have h0:=hk 0 (by omega)
   have h1:=hk 1 (by omega)
   have h2:=hk 2 (by omega)
   have h3:=hk 3 (by omega)
   match j with
   | 0=>cases ho; exact .slcS i1 (boR_bl _)
   | 1=>cases ho; exact .slcS i3 (boR_bl _)
   | 2=>cases ho; exact .nil zg
   | 3=>cases ho; exact .nil zg
   | 4=>cases ho; exact .varL j0 ⟨.v,.v,.v,.v,.v,trivial⟩
   | 5=>cases ho; exact .varL i8 ⟨.own h0,.own h1,.nilOwn h2,.nilOwn h3,.v,trivial⟩
   | j+6=>cases ho
  ·intro ks hk
   refine slots (live:=[1,2,3,4,5]) rfl ?_
   intro t ht
   simp only [List.mem_cons,List.not_mem_nil,or_false] at ht
   rcases ht with rfl | rfl | rfl | rfl | rfl
   ·rw [(getD_setN (by omega)).trans k1]; exact .same (Gr.pel_bl g)
   ·rw [(getD_setN (by omega)).trans k2]; exact .ref (hk 4 (by omega))
   ·rw [(getD_setN (by omega)).trans k3]; exact .v
   ·rw [(getD_setN (by omega)).trans k4]; exact .ref (hk 5 (by omega))
   ·rw [getD_setS (by omega)]; exact .v
 clear hlen hlen' k1 k2 k3 k4 i1 i3 i8 j0 jc hab hca hcb h0a h0b
 intro i hi
 simp only [go_sem,iEq,iLE,iLT,iTN]
 by_cases hiq:i<g.defs.length
 case pos=>
  have hw:=wrap_succ i (by omega)
  have hbr:(i+1) * 24≤140737488355328:=by omega
  simp only [go_sem,iEq,iLE,iLT,iTN,hiq,hw,hbr,gr_take,gr_c_len,lMp,List.length_replicate,hb2]
  refine ⟨by omega,by omega,by omega,by omega,i+1,by omega,by omega,?_⟩
  rw [boR_rep,List.replicate_succ',show bwR (za i (zR g.kinds.length))++[[D.sl 1 (boR (zR g.kinds.length))]]=bwR (za i (zR g.kinds.length)++[zR g.kinds.length]) from by simp]
  exact Mv.of [some 0,some 1,some 6,some 7,some 4,some 5] rfl ⟨.slcS rfl (boR_bl _),.slcS rfl (boR_bl _),.slcS rfl (bwR_bl _),.slcS rfl (bwR_bl _),.varL rfl ⟨.v,.v,.v,.v,.v,trivial⟩,.varL rfl ⟨.own rfl,.own rfl,.own rfl,.own rfl,.v,trivial⟩,trivial⟩ (by simp [f46_i8,hq])
 have hiL:i=g.defs.length:=by omega
 subst hiL
 simp only [go_sem,iEq,iLE,iLT,iTN,hiq]
 have hzl:(zR g.defs.length).length=g.defs.length:=by simp
 have hit:∀ r,(iter (rnd1 g.defs g.defs.length) r (zR g.defs.length,zR g.defs.length)).1.length=g.defs.length∧(iter (rnd1 g.defs g.defs.length) r (zR g.defs.length,zR g.defs.length)).2.length=g.defs.length:=by
  intro r
  induction r with
  | zero=>exact ⟨hzl,hzl⟩
  | succ r ih=>
   rw [iter_succ]
   obtain ⟨h1,h2⟩:=rnd1_len g.defs g.defs.length (iter (rnd1 g.defs g.defs.length) r (zR g.defs.length,zR g.defs.length)).1 (iter (rnd1 g.defs g.defs.length) r (zR g.defs.length,zR g.defs.length)).2
   exact ⟨h1.trans ih.1,h2.trans ih.2⟩
 have hFr:(za g.defs.length (zR g.kinds.length)).length=g.defs.length:=by simp
 have hdm:∀ d∈g.defs,d.2.may g.kinds.length g.defs.length=true:=fun d hd=>(m2 d hd).2
 refine xl_loopM hT hm (fun r:Nat=>⟨f46_i19 (.pel g.c) (.ref 4 0) (.i g.defs.length) (.ref 5 0) (.i r),omK (iter (rnd1 g.defs g.defs.length) r (zR g.defs.length,zR g.defs.length)).1 (iter (rnd1 g.defs g.defs.length) r (zR g.defs.length,zR g.defs.length)).2 (za g.defs.length (zR g.kinds.length)) (za g.defs.length (zR g.kinds.length)) g.kinds.length⟩)
  (fun r=>r≤g.defs.length+1) (fun r=>g.defs.length+1 - r) 0 (zd _) (Mv.keep (by simp [f46_i19,hq])) ?_
 intro r hr
 simp only [go_sem,iEq,iLE,iLT,iTN]
 by_cases hrq:r≤g.defs.length
 case pos=>
  have hwr:=wrap_succ r (by omega)
  have hs1:=iter_succ (rnd1 g.defs g.defs.length) r (zR g.defs.length,zR g.defs.length)
  obtain ⟨hp1,hp2⟩:=hit r
  generalize iter (rnd1 g.defs g.defs.length) r (zR g.defs.length,zR g.defs.length)=w at hs1 hp1 hp2 ⊢
  obtain ⟨Pr,Nr⟩:=w
  dsimp only at hp1 hp2 ⊢
  simp only [go_sem,iEq,iLE,iLT,iTN,hrq,gr_take,gr_c_len,lMp]
  refine xl_loopM hT hm (fun i:Nat=>⟨f46_i17 (.pel g.c) (.ref 4 0) (.i g.defs.length) (.ref 5 0) (.i r) (.i g.defs.length) (.i i),omK (rnd1 g.defs i (Pr,Nr)).1 (rnd1 g.defs i (Pr,Nr)).2 (za g.defs.length (zR g.kinds.length)) (za g.defs.length (zR g.kinds.length)) g.kinds.length⟩)
   (fun i=>i≤g.defs.length) (fun i=>g.defs.length - i) 0 (zd _) (Mv.keep (by simp [f46_i17,hq])) ?_
  intro i hi
  simp only [go_sem,iEq,iLE,iLT,iTN,gr_take,gr_c_len,lMp]
  by_cases hiq2:i<g.defs.length
  case neg=>
   have hiL:i=g.defs.length:=by omega
   subst hiL
   simp only [go_sem,iEq,iLE,iLT,iTN,hiq2,hwr]
   exact ⟨r+1,by omega,by omega,by rw [hs1]; exact Mv.keep (by simp [f46_i19,hq])⟩
  obtain ⟨d,hdi⟩:=get_ex hiq2
  have hs2:=rnd1_succ (P:=Pr) (N:=Nr) hdi
  obtain ⟨hal,hbl⟩:=rnd1_len g.defs i Pr Nr
  generalize rnd1 g.defs i (Pr,Nr)=w at hs2 hal hbl ⊢
  obtain ⟨A,B⟩:=w
  dsimp only at hs2 hal hbl ⊢
  have hgd:=df_get hdi
  have hmd:=hdm d (zf hdi)
  have hiA:i<A.length:=by omega
  have hiB:i<B.length:=by omega
  obtain ⟨x,hx⟩:=get_ex hiA
  obtain ⟨y,hy⟩:=get_ex hiB
  have hgA:=bo_get hx
  have hgB:=bo_get hy
  have hw:=wrap_succ i (by omega)
  have L1:=rLive (K:=g.kinds.length) (P:=A) (N:=B) (by omega) (Rws_bl (za g.defs.length (zR g.kinds.length))) (Rws_bl (za g.defs.length (zR g.kinds.length))) g.kinds.length false d.2 (by rw [hal,hp1]; exact hmd)
  have L2:=rLive (K:=g.kinds.length) (P:=A.set i (d.2.live false A)) (N:=B) (by rw [List.length_set]; omega) (Rws_bl (za g.defs.length (zR g.kinds.length))) (Rws_bl (za g.defs.length (zR g.kinds.length))) g.kinds.length true d.2 (by rw [List.length_set,hal,hp1]; exact hmd)
  rw [if_neg (by simp)] at L1
  rw [if_pos rfl] at L2
  simp only [go_sem,iEq,iLE,iLT,iTN,hiq2,hgd,gr_take,gr_c_len,lMp]
  refine L1.qv ⟨kCv (X:=_),.same (Cf.d_bl _),.v,trivial⟩ ?_
  simp only [go_sem,iEq,iLE,iLT,iTN,hiq2,hgd,gr_take,gr_c_len,lMp,hiA,hgA,boR_set,zh,zi]
  refine L2.qv ⟨kCv (X:=_),.same (Cf.d_bl _),.v,trivial⟩ ?_
  simp only [go_sem,iEq,iLE,iLT,iTN,hiq2,hgd,gr_take,gr_c_len,lMp,hiB,hgB,boR_set,zh,zi,hw]
  refine ⟨i+1,by omega,by omega,?_⟩
  rw [hs2]
  exact Mv.keep (by simp [f46_i17,hq])
 have hrL:r=g.defs.length+1:=by omega
 subst hrL
 simp only [go_sem,iEq,iLE,iLT,iTN,hrq]
 have hend:iter (rnd1 g.defs g.defs.length) (g.defs.length+1) (zR g.defs.length,zR g.defs.length)=(lkP g,lkN g):=iter_two _ _ _ _ _
 rw [hend]
 dsimp only
 clear hit hend hrq hr hiq hi hzl
 have hPl:(lkP g).length=g.defs.length:=liveR_len false g.defs
 have hNl:(lkN g).length=g.defs.length:=liveR_len true g.defs
 show ALW _ _ _ _ ⟨_,omK (lkP g) (lkN g) _ _ _⟩
 generalize hPd:lkP g=P at hPl ⊢
 generalize hNd:lkN g=N at hNl ⊢
 have hmul:IntKind.i64.wrap ((g.defs.length:Int) * (g.kinds.length:Int))=((g.defs.length * g.kinds.length:Nat):Int):=by
  have:g.defs.length * g.kinds.length≤50 * 100:=Nat.mul_le_mul m6 m4
  rw [← Int.natCast_mul]
  exact wrap_int _ (by omega) (by omega)
 have hmb:g.defs.length * g.kinds.length≤5000:=Nat.mul_le_mul m6 m4
 have hlenF:∀ r,(iter (swp (tellF P N g.kinds.length g.defs) g.defs.length 0) r (za g.defs.length (zR g.kinds.length))).length=g.defs.length:=by
  intro r
  induction r with
  | zero=>simp [iter]
  | succ r ih=>rw [iter_succ,swp_len,ih]
 have hokF:∀ r,FsOk g.kinds.length (iter (swp (tellF P N g.kinds.length g.defs) g.defs.length 0) r (za g.defs.length (zR g.kinds.length))):=fun r=>iter_ok (swp_ok (fun i a=>by unfold tellF; split <;> simp [fst_len]) _) r (rep_ok _ _)
 refine xl_loopM hT hm (fun r:Nat=>⟨f46_i29 (.pel g.c) (.ref 4 0) (.i g.defs.length) (.ref 5 0) (.i r),omK P N (iter (swp (tellF P N g.kinds.length g.defs) g.defs.length 0) r (za g.defs.length (zR g.kinds.length))) (za g.defs.length (zR g.kinds.length)) g.kinds.length⟩)
  (fun r=>r≤g.defs.length * g.kinds.length+1) (fun r=>g.defs.length * g.kinds.length+1 - r) 0 (zd _) (Mv.keep (by simp [f46_i29,hq])) ?_
 intro r hr
 simp only [go_sem,iEq,iLE,iLT,iTN,gr_take,gr_c_len,lMp,hmul]
 by_cases hrq:r≤g.defs.length * g.kinds.length
 case pos=>
  have hwr:=wrap_succ r (by omega)
  have hs1:=iter_succ (swp (tellF P N g.kinds.length g.defs) g.defs.length 0) r (za g.defs.length (zR g.kinds.length))
  have hp1:=hlenF r
  have hp2:=hokF r
  generalize iter (swp (tellF P N g.kinds.length g.defs) g.defs.length 0) r (za g.defs.length (zR g.kinds.length))=Fr at hs1 hp1 hp2 ⊢
  simp only [go_sem,iEq,iLE,iLT,iTN,hrq,gr_take,gr_c_len,lMp]
  refine xl_loopM hT hm (fun i:Nat=>⟨f46_i27 (.pel g.c) (.ref 4 0) (.i g.defs.length) (.ref 5 0) (.i r) (.i g.defs.length) (.i i),omK P N (swp (tellF P N g.kinds.length g.defs) i 0 Fr) (za g.defs.length (zR g.kinds.length)) g.kinds.length⟩)
   (fun i=>i≤g.defs.length) (fun i=>g.defs.length - i) 0 (zd _) (Mv.keep (by simp [f46_i27,hq,swp])) ?_
  intro i hi
  simp only [go_sem,iEq,iLE,iLT,iTN,gr_take,gr_c_len,lMp]
  by_cases hiq2:i<g.defs.length
  case neg=>
   have hiL:i=g.defs.length:=by omega
   subst hiL
   simp only [go_sem,iEq,iLE,iLT,iTN,hiq2,hwr]
   exact ⟨r+1,by omega,by omega,by rw [hs1]; exact Mv.keep (by simp [f46_i29,hq])⟩
  obtain ⟨d,hdi⟩:=get_ex hiq2
  have hs2:=swp_snoc (f:=tellF P N g.kinds.length g.defs) i 0 Fr
  rw [Nat.zero_add] at hs2
  have hal:(swp (tellF P N g.kinds.length g.defs) i 0 Fr).length=g.defs.length:=by rw [swp_len,hp1]
  have hao:FsOk g.kinds.length (swp (tellF P N g.kinds.length g.defs) i 0 Fr):=swp_ok (fun i a=>by unfold tellF; split <;> simp [fst_len]) i Fr hp2
  generalize swp (tellF P N g.kinds.length g.defs) i 0 Fr=A at hs2 hal hao ⊢
  have htl:tellF P N g.kinds.length g.defs i A=d.2.fst P N g.kinds.length A:=by unfold tellF; rw [hdi]
  rw [htl] at hs2
  have hgd:=df_get hdi
  have hmd:=hdm d (zf hdi)
  have hiA:i<A.length:=by omega
  obtain ⟨x,hx⟩:=get_ex hiA
  have hgA:=bw_get hx
  have hw:=wrap_succ i (by omega)
  simp only [go_sem,iEq,iLE,iLT,iTN,hiq2,hgd,gr_take,gr_c_len,lMp]
  refine ⟨_,(rBegO (P:=P) (N:=N) (F:=A) (S:=(za g.defs.length (zR g.kinds.length))) (by omega) (by omega) (by omega) hao d.2 (by rw [hal]; exact hmd)).behind (bk:=[zKo,kVar g.kinds.length]) (kO_bl (Cf.d_bl _)) kOm_bl (Bs_bl _),?_⟩
  simp only [go_sem,iEq,iLE,iLT,iTN,hiq2,hgd,gr_take,gr_c_len,lMp,hiA,hgA,bwR_set,zh,zi,hw]
  refine ⟨i+1,by omega,by omega,?_⟩
  rw [hs2]
  exact Mv.keep (by simp [f46_i27,hq])
 have hrL:r=g.defs.length * g.kinds.length+1:=by omega
 subst hrL
 simp only [go_sem,iEq,iLE,iLT,iTN,hrq]
 have hFd:iter (swp (tellF P N g.kinds.length g.defs) g.defs.length 0) (g.defs.length * g.kinds.length+1) (za g.defs.length (zR g.kinds.length))=fstR P N g.kinds.length g.defs:=rfl
 rw [hFd]
 have hFl:=fstR_len P N g.kinds.length g.defs
 have hFo:=fstR_ok P N g.kinds.length g.defs
 have hlF:lkF g=fstR P N g.kinds.length g.defs:=by rw [← hPd,← hNd]
 generalize fstR P N g.kinds.length g.defs=F at hFl hFo hlF ⊢
 clear hFd hlenF hokF hrq hr
 have hlenS:∀ r,(iter (swp (tellS P N g.kinds.length F g.defs) g.defs.length 0) r (za g.defs.length (zR g.kinds.length))).length=g.defs.length:=by
  intro r
  induction r with
  | zero=>simp [iter]
  | succ r ih=>rw [iter_succ,swp_len,ih]
 have hokS:∀ r,FsOk g.kinds.length (iter (swp (tellS P N g.kinds.length F g.defs) g.defs.length 0) r (za g.defs.length (zR g.kinds.length))):=fun r=>iter_ok (swp_ok (fun i a=>by unfold tellS; split <;> simp [shn_len]) _) r (rep_ok _ _)
 refine xl_loopM hT hm (fun r:Nat=>⟨f46_i39 (.pel g.c) (.ref 4 0) (.i g.defs.length) (.ref 5 0) (.i r),omK P N F (iter (swp (tellS P N g.kinds.length F g.defs) g.defs.length 0) r (za g.defs.length (zR g.kinds.length))) g.kinds.length⟩)
  (fun r=>r≤g.defs.length * g.kinds.length+1) (fun r=>g.defs.length * g.kinds.length+1 - r) 0 (zd _) (Mv.keep (by simp [f46_i39,hq])) ?_
 intro r hr
 simp only [go_sem,iEq,iLE,iLT,iTN,gr_take,gr_c_len,lMp,hmul]
 by_cases hrq:r≤g.defs.length * g.kinds.length
 case pos=>
  have hwr:=wrap_succ r (by omega)
  have hs1:=iter_succ (swp (tellS P N g.kinds.length F g.defs) g.defs.length 0) r (za g.defs.length (zR g.kinds.length))
  have hp1:=hlenS r
  have hp2:=hokS r
  generalize iter (swp (tellS P N g.kinds.length F g.defs) g.defs.length 0) r (za g.defs.length (zR g.kinds.length))=Fr at hs1 hp1 hp2 ⊢
  simp only [go_sem,iEq,iLE,iLT,iTN,hrq,gr_take,gr_c_len,lMp]
  refine xl_loopM hT hm (fun i:Nat=>⟨f46_i37 (.pel g.c) (.ref 4 0) (.i g.defs.length) (.ref 5 0) (.i r) (.i g.defs.length) (.i i),omK P N F (swp (tellS P N g.kinds.length F g.defs) i 0 Fr) g.kinds.length⟩)
   (fun i=>i≤g.defs.length) (fun i=>g.defs.length - i) 0 (zd _) (Mv.keep (by simp [f46_i37,hq,swp])) ?_
  intro i hi
  simp only [go_sem,iEq,iLE,iLT,iTN,gr_take,gr_c_len,lMp]
  by_cases hiq2:i<g.defs.length
  case neg=>
   have hiL:i=g.defs.length:=by omega
   subst hiL
   simp only [go_sem,iEq,iLE,iLT,iTN,hiq2,hwr]
   exact ⟨r+1,by omega,by omega,by rw [hs1]; exact Mv.keep (by simp [f46_i39,hq])⟩
  obtain ⟨d,hdi⟩:=get_ex hiq2
  have hs2:=swp_snoc (f:=tellS P N g.kinds.length F g.defs) i 0 Fr
  rw [Nat.zero_add] at hs2
  have hal:(swp (tellS P N g.kinds.length F g.defs) i 0 Fr).length=g.defs.length:=by rw [swp_len,hp1]
  have hao:FsOk g.kinds.length (swp (tellS P N g.kinds.length F g.defs) i 0 Fr):=swp_ok (fun i a=>by unfold tellS; split <;> simp [shn_len]) i Fr hp2
  generalize swp (tellS P N g.kinds.length F g.defs) i 0 Fr=A at hs2 hal hao ⊢
  have htl:tellS P N g.kinds.length F g.defs i A=d.2.shn P N g.kinds.length F A:=by unfold tellS; rw [hdi]
  rw [htl] at hs2
  have hgd:=df_get hdi
  have hmd:=hdm d (zf hdi)
  have hiA:i<A.length:=by omega
  obtain ⟨x,hx⟩:=get_ex hiA
  have hgA:=bw_get hx
  have hw:=wrap_succ i (by omega)
  simp only [go_sem,iEq,iLE,iLT,iTN,hiq2,hgd,gr_take,gr_c_len,lMp]
  refine ⟨_,(rShnO (P:=P) (N:=N) (F:=F) (S:=A) (by omega) (by omega) (by omega) (by omega) hFo hao d.2 (by rw [hFl]; exact hmd)).behind (bk:=[zKo,kVar g.kinds.length]) (kO_bl (Cf.d_bl _)) kOm_bl (Bs_bl _),?_⟩
  simp only [go_sem,iEq,iLE,iLT,iTN,hiq2,hgd,gr_take,gr_c_len,lMp,hiA,hgA,bwR_set,zh,zi,hw]
  refine ⟨i+1,by omega,by omega,?_⟩
  rw [hs2]
  exact Mv.keep (by simp [f46_i37,hq])
 have hrL:r=g.defs.length * g.kinds.length+1:=by omega
 subst hrL
 simp only [go_sem,iEq,iLE,iLT,iTN,hrq]
 have hSd:iter (swp (tellS P N g.kinds.length F g.defs) g.defs.length 0) (g.defs.length * g.kinds.length+1) (za g.defs.length (zR g.kinds.length))=shnR P N g.kinds.length F g.defs:=rfl
 rw [hSd]
 have hlS:lkSh g=shnR P N g.kinds.length F g.defs:=by unfold lkSh; rw [hlF,hPd,hNd]
 rw [hlS,hlF]
 exact Fin.ret (.aggL ⟨.frzS rfl rfl (boR_bl _),.frzS rfl rfl (boR_bl _),.frzS rfl rfl (bwR_bl _),.frzS rfl rfl (bwR_bl _),.v,trivial⟩)
end Go.Proofs.YtbmedfjmccnclaaGreat.W
set_option maxRecDepth 100000
namespace Go.Proofs.YtbmedfjmccnclaaGreat.W
open Go Go.Proofs Go.Proofs.YtbmedfjmccnclaaGreat.AWP
open Int renaming reduceEq→iEq,reduceLE→iLE,reduceLT→iLT,reduceToNat→iTN
open List renaming length_map→lMp
attribute [local irreducible] xl hide aop aops aopQ qops guardP condP
theorem rFits_kn {g:Gr} (hmy:mayG g=true) (c:Cf) (hc:c.sz≤1099511627776):AP Tryz.prog 44 [.agg g.c,.agg c.c] (.b (knB g [c])):=by
 obtain ⟨m1,m2,m3,m4,m5,m6,m7,m8⟩:=mayG_facts hmy
 have h:=rFits g c (by omega) (by omega) (by omega) hc
 have e:(mayG g && (c.may g.kinds.length g.defs.length && decide (c.sz≤2000)))=knB g [c]:=by
  unfold knB
  rw [hmy]
  simp
 rw [e] at h
 exact h
section
variable {g:Gr} (hmy:mayG g=true)
include hmy
theorem lk_lens:g.kinds.length≤1000000∧(lkP g).length=(lkF g).length∧(lkN g).length=(lkF g).length∧(lkSh g).length=(lkF g).length∧FsOk g.kinds.length (lkF g)∧FsOk g.kinds.length (lkSh g)∧(lkF g).length=g.defs.length:=by
 obtain ⟨m1,m2,m3,m4,m5,m6,m7,m8⟩:=mayG_facts hmy
 have h1:=liveR_len false g.defs
 have h2:=liveR_len true g.defs
 have h3:=fstR_len (lkP g) (lkN g) g.kinds.length g.defs
 have h4:=shnR_len (lkP g) (lkN g) g.kinds.length (lkF g) g.defs
 exact ⟨by omega,h1.trans h3.symm,h2.trans h3.symm,h4.trans h3.symm,fstR_ok _ _ _ _,shnR_ok _ _ _ _ _,h3⟩
set_option maxHeartbeats 4000000 in
theorem rIs22 (c:Cf) (hc:c.sz≤1099511627776) (null:Bool):AP Tryz.prog 24 [.agg g.c,.agg c.c,.b null] (.b (knB g [c] && c.live null (if null=true then lkN g else lkP g))):=by
 obtain ⟨l1,l2,l3,l4,l5,l6,l7⟩:=lk_lens hmy
 have hO:=rOfC g hmy
 refine AC.lbody hT hm Tryz.func24 f24_nm f24_lc f24_res f24_nt ?_
 simp only [go_sem,iEq,iLE,iLT,iTN,gr_take,gr_c_len,Cf.c_take]
 refine (rFits_kn hmy c hc).qv ⟨.same (Gr.d_bl g),.same (Cf.d_bl c),trivial⟩ ?_
 cases hk:knB g [c] with
 | false=>
  simp only [go_sem,iEq,iLE,iLT,iTN]
  exact Fin.v rfl
 | true=>
  have hmay:=knB_one hk
  simp only [go_sem,iEq,iLE,iLT,iTN,gr_take,gr_c_len,Cf.c_take]
  refine hO.qd ⟨.same (Gr.d_bl g),trivial⟩ (kD_bl _ _ (Rws_bl _) (Rws_bl _) _) ?_
  simp only [go_sem,iEq,iLE,iLT,iTN,gr_take,gr_c_len,Cf.c_take]
  refine (rLive (K:=g.kinds.length) (P:=lkP g) (N:=lkN g) (l3.trans l2.symm) (Rws_bl _) (Rws_bl _) g.kinds.length null c (by rw [l2,l7]; exact hmay)).pv ⟨.same (kD_bl _ _ (Rws_bl _) (Rws_bl _) _),.same (Cf.d_bl c),.v,trivial⟩ ?_
  simp only [go_sem,iEq,iLE,iLT,iTN]
  exact Fin.v (by simp)
end
end Go.Proofs.YtbmedfjmccnclaaGreat.W
set_option maxRecDepth 100000
namespace Go.Proofs.YtbmedfjmccnclaaGreat.W
open Go Go.Proofs Go.Proofs.YtbmedfjmccnclaaGreat.AWP
open Int renaming reduceEq→iEq,reduceLE→iLE,reduceLT→iLT,reduceToNat→iTN
open List renaming length_map→lMp
attribute [local irreducible] xl hide aop aops aopQ qops guardP condP
end Go.Proofs.YtbmedfjmccnclaaGreat.W
set_option maxRecDepth 100000
namespace Go.Proofs.YtbmedfjmccnclaaGreat.W
open Go Go.Proofs Go.Proofs.YtbmedfjmccnclaaGreat.AWP
open Int renaming reduceEq→iEq,reduceLE→iLE,reduceLT→iLT,reduceToNat→iTN
open List renaming length_map→lMp
attribute [local irreducible] xl hide aop aops aopQ qops guardP condP
theorem knB_all1 (g:Gr) (p:Cf→Bool) (l:List Cf):(knB g l && l.all p)=(decide ((0:Int)<(l.length:Int)) && l.all fun c=>knB g [c] && p c):=by
 cases l with
 | nil=>simp [knB]
 | cons x l=>
  have h0:decide ((0:Int)<((x :: l).length:Int))=true:=decide_eq_true (by simp only [List.length_cons]; omega)
  rw [h0,Bool.true_and]
  have h1:knB g (x :: l)=(x :: l).all fun c=>c.may g.kinds.length g.defs.length && decide (c.sz≤2000):=by simp [knB]
  have h2:∀ c,knB g [c]=(c.may g.kinds.length g.defs.length && decide (c.sz≤2000)):=by intro c; simp [knB]
  rw [h1]
  simp only [h2]
  generalize x :: l=m
  induction m with
  | nil=>rfl
  | cons y m ih=>
   simp only [List.all_cons]
   rw [← ih]
   cases (y.may g.kinds.length g.defs.length && decide (y.sz≤2000)) <;> cases p y <;> simp
theorem all_take {p:Cf→Bool} {l:List Cf} {i:Nat} {x:Cf} (h:l[i]? = some x):(l.take (i+1)).all p=((l.take i).all p && p x):=by
 rw [List.take_add_one,h,List.all_append]
 simp
set_option maxHeartbeats 8000000 in
theorem lookIsL (g:Gr) (l:List Cf) (hz:∀ x∈g.defs,x.2.sz≤1099511627776) (hc:∀ c∈l,c.sz≤1099511627776):AP Tryz.prog 5 [.agg g.c,Cfs l] (.b true):=by
 have aw:∀ {om:List Ob} {K:Out→List Ob→Prop},K (.ret (.b true)) om→ACall Tryz.prog 14 [] om K:=fun hk=>awake22.pv trivial hk
 have hm0:=hm
 refine AC.lbody hT hm Tryz.func5 f5_nm f5_lc f5_res f5_nt ?_
 simp only [go_sem,iEq,iLE,iLT,iTN,gr_take,gr_c_len,Cf.c_take,lMp]
 refine (rGreat g).pv ⟨.same (Gr.d_bl g),trivial⟩ ?_
 cases hgr:greatB g with
 | true=>
  simp only [go_sem,iEq,iLE,iLT,iTN]
  refine aw ?_
  simp only [go_sem,iEq,iLE,iLT,iTN]
  exact Fin.v rfl
 | false=>
 obtain ⟨hF,k1,k2,k3,k4,k5⟩:=great_fit hgr hz
 by_cases hten:10<l.length
 case pos=>
  have ht:decide ((10:Int)<(l.length:Int))=true:=decide_eq_true (by omega)
  have ht2:(10:Int)<(l.length:Int):=by omega
  simp only [go_sem,iEq,iLE,iLT,iTN,Cf.cs_eq,lMp,gt_iff_lt,ht,ht2]
  refine aw ?_
  simp only [go_sem,iEq,iLE,iLT,iTN]
  exact Fin.v rfl
 have ht2:¬ (10:Int)<(l.length:Int):=by omega
 simp only [go_sem,iEq,iLE,iLT,iTN,Cf.cs_eq,lMp,gt_iff_lt,ht2,gr_take,gr_c_len]
 refine ⟨_,ofC g hF,?_⟩
 have hMy:=rMayG g hF.nodes hF.kinds hF.defs
 have c1:((1:Int) == 1)=true:=rfl
 have c0:((0:Int) == 0)=true:=rfl
 rintro _ _ (⟨hm,rfl,rfl⟩ | ⟨hm,rfl,rfl⟩)
 ·rw [hm] at hMy
  simp only [go_sem,iEq,iLE,iLT,iTN,gr_take,gr_c_len]
  refine hMy.pv ⟨.same (Gr.d_bl g),trivial⟩ ?_
  simp only [go_sem,iEq,iLE,iLT,iTN,Bool.not_false,c1]
  refine aw ?_
  simp only [go_sem,iEq,iLE,iLT,iTN]
  exact Fin.v rfl
 rw [hm] at hMy
 simp only [go_sem,iEq,iLE,iLT,iTN,gr_take,gr_c_len]
 refine hMy.pv ⟨.same (Gr.d_bl g),trivial⟩ ?_
 simp only [go_sem,iEq,iLE,iLT,iTN,Bool.not_true,Cf.cs_eq,lMp,gt_iff_lt,gr_take,gr_c_len]
 have hq:∀ om (F:Nat→Bool) (kk:List (Option Nat)),Cv om F kk (.pel g.c) (.pel g.c):=fun om F kk=>.same (Gr.pel_bl g)
 have hql:∀ om (F:Nat→Bool) (kk:List (Option Nat)),Cv om F kk (Cfs l) (Cfs l):=fun om F kk=>.same (.sl (Cf.cs_bl l))
 have hPr:=prodC g hm l (by omega) hc [] []
 have hNu:=nullC g hm l (by omega) hc [] []
 have hGr:=grC g hm [] []
 have hSA:=rSameAll g hF.kinds hF.defs
 have eP:prodL g l=(decide ((0:Int)<(l.length:Int)) && l.all fun c=>knB g [c] && c.live false (lkP g)):=knB_all1 g _ l
 have eN:nullL g l=(decide ((0:Int)<(l.length:Int)) && l.all fun c=>knB g [c] && c.live true (lkN g)):=knB_all1 g _ l
 rw [eP] at hPr
 rw [eN] at hNu
 generalize decide ((0:Int)<(l.length:Int))=n0 at hPr hNu ⊢
 refine xl_loopM hT hm0 (fun i:Nat=>⟨f5_i14 (Cfs l) (.pel g.c) (.ref 0 0) (.i 0) (.b (n0 && (l.take i).all fun c=>knB g [c] && c.live false (lkP g))) (.b (n0 && (l.take i).all fun c=>knB g [c] && c.live true (lkN g))) (.i i),[lkA g]⟩)
  (fun i=>i≤l.length) (fun i=>l.length - i) 0 (Nat.zero_le _) (Mv.keep (by simp [f5_i14,hq,hql])) ?_
 intro i hi
 simp only [go_sem,iEq,iLE,iLT,iTN,Cf.cs_eq,lMp]
 by_cases hiq:i<l.length
 case pos=>
  obtain ⟨x,hx⟩:=get_ex hiq
  have hgx:(l.map Cf.c)[i]? = some x.c:=by rw [List.getElem?_map,hx]; rfl
  have hw:=wrap_succ i (by omega)
  have hxs:=hc x (List.mem_of_getElem? hx)
  have tP:=all_take (p:=fun c=>knB g [c] && c.live false (lkP g)) hx
  have tN:=all_take (p:=fun c=>knB g [c] && c.live true (lkN g)) hx
  have iP:=rIs22 hm x hxs false
  have iN:=rIs22 hm x hxs true
  rw [if_neg (by simp)] at iP
  rw [if_pos rfl] at iN
  generalize ((l.take i).all fun c=>knB g [c] && c.live false (lkP g))=a at tP ⊢
  generalize ((l.take i).all fun c=>knB g [c] && c.live true (lkN g))=b at tN ⊢
  simp only [go_sem,iEq,iLE,iLT,iTN,Cf.cs_eq,lMp,gt_iff_lt,gr_take,gr_c_len,Cf.c_take,hiq,hgx,hw,beq_self_eq_true,c0]
  refine (rWide x).pv ⟨.same (Cf.d_bl x),trivial⟩ ?_
  cases hwd:wide21B x with
  | true=>
   simp only [go_sem,iEq,iLE,iLT,iTN]
   refine aw ?_
   simp only [go_sem,iEq,iLE,iLT,iTN]
   exact Fin.v rfl
  | false=>
  have tP':(n0 && (l.take (i+1)).all fun c=>knB g [c] && c.live false (lkP g))=((n0 && a) && (knB g [x] && x.live false (lkP g))):=by rw [tP]; cases n0 <;> cases a <;> simp
  have tN':(n0 && (l.take (i+1)).all fun c=>knB g [c] && c.live true (lkN g))=((n0 && b) && (knB g [x] && x.live true (lkN g))):=by rw [tN]; cases n0 <;> cases b <;> simp
  cases hna:(n0 && a) <;> cases hnb:(n0 && b)
  ·simp only [go_sem,iEq,iLE,iLT,iTN,Cf.cs_eq,lMp,gt_iff_lt,gr_take,gr_c_len,Cf.c_take,hiq,hgx,hw,beq_self_eq_true,c0]
   refine ⟨i+1,by omega,by omega,?_⟩
   rw [tP',tN',hna,hnb]
   exact Mv.keep (by simp [hq,hql])
  ·simp only [go_sem,iEq,iLE,iLT,iTN,Cf.cs_eq,lMp,gt_iff_lt,gr_take,gr_c_len,Cf.c_take,hiq,hgx,hw,beq_self_eq_true,c0]
   refine iN.pv ⟨.same (Gr.d_bl g),.same (Cf.d_bl x),.v,trivial⟩ ?_
   simp only [go_sem,iEq,iLE,iLT,iTN,Cf.cs_eq,lMp,gt_iff_lt,gr_take,gr_c_len,Cf.c_take,hiq,hgx,hw,beq_self_eq_true,c0]
   refine ⟨i+1,by omega,by omega,?_⟩
   rw [tP',tN',hna,hnb]
   exact Mv.keep (by simp [hq,hql])
  ·simp only [go_sem,iEq,iLE,iLT,iTN,Cf.cs_eq,lMp,gt_iff_lt,gr_take,gr_c_len,Cf.c_take,hiq,hgx,hw,beq_self_eq_true,c0]
   refine iP.pv ⟨.same (Gr.d_bl g),.same (Cf.d_bl x),.v,trivial⟩ ?_
   simp only [go_sem,iEq,iLE,iLT,iTN,Cf.cs_eq,lMp,gt_iff_lt,gr_take,gr_c_len,Cf.c_take,hiq,hgx,hw,beq_self_eq_true,c0]
   refine ⟨i+1,by omega,by omega,?_⟩
   rw [tP',tN',hna,hnb]
   exact Mv.keep (by simp [hq,hql])
  ·simp only [go_sem,iEq,iLE,iLT,iTN,Cf.cs_eq,lMp,gt_iff_lt,gr_take,gr_c_len,Cf.c_take,hiq,hgx,hw,beq_self_eq_true,c0]
   refine iP.pv ⟨.same (Gr.d_bl g),.same (Cf.d_bl x),.v,trivial⟩ ?_
   simp only [go_sem,iEq,iLE,iLT,iTN,Cf.cs_eq,lMp,gt_iff_lt,gr_take,gr_c_len,Cf.c_take,hiq,hgx,hw,beq_self_eq_true,c0]
   refine iN.pv ⟨.same (Gr.d_bl g),.same (Cf.d_bl x),.v,trivial⟩ ?_
   simp only [go_sem,iEq,iLE,iLT,iTN,Cf.cs_eq,lMp,gt_iff_lt,gr_take,gr_c_len,Cf.c_take,hiq,hgx,hw,beq_self_eq_true,c0]
   refine ⟨i+1,by omega,by omega,?_⟩
   rw [tP',tN',hna,hnb]
   exact Mv.keep (by simp [hq,hql])
 have tl:l.take i=l:=List.take_of_length_le (by omega)
 rw [tl]
 simp only [go_sem,iEq,iLE,iLT,iTN,gr_take,gr_c_len,beq_self_eq_true,c0,hiq]
 refine ⟨_,hPr,?_⟩
 simp only [go_sem,iEq,iLE,iLT,iTN,gr_take,gr_c_len,beq_self_eq_true,c0,hiq]
 refine ⟨_,hNu,?_⟩
 simp only [go_sem,iEq,iLE,iLT,iTN,gr_take,gr_c_len,beq_self_eq_true,c0,hiq]
 refine ⟨_,hGr,?_⟩
 simp only [go_sem,iEq,iLE,iLT,iTN,gr_take,gr_c_len,beq_self_eq_true,c0,hiq]
 refine hSA.qv ⟨.same (Gr.d_bl g),.same (Gr.d_bl g),trivial⟩ ?_
 simp only [go_sem,iEq,iLE,iLT,iTN,gr_take,gr_c_len,beq_self_eq_true,c0,hiq]
 refine awake22.qv trivial ?_
 simp only [go_sem,iEq,iLE,iLT,iTN,gr_take,gr_c_len,beq_self_eq_true,c0,hiq]
 exact Fin.v rfl
end Go.Proofs.YtbmedfjmccnclaaGreat.W
set_option maxRecDepth 100000
namespace Go.Proofs.YtbmedfjmccnclaaGreat.W
open Go Go.Proofs Go.Proofs.YtbmedfjmccnclaaGreat.AWP Go.Proofs.YtbmedfjmccnclaaGreat
open Int renaming reduceEq→iEq,reduceLE→iLE,reduceLT→iLT,reduceToNat→iTN
open List renaming length_map→lMp
open Go.ChangeShapes Go.WideShapes Go.ChangeAt Go.RowKit
theorem cfs_argB {H:Type} {enc:TypeId × Value→H} {W:World} {sp:Nat→Bool} {hd:Bool} {v:Value} {d:DataW H} {p:List MemPlace} (hv:v.cells = #[v]) (h:DataW.Trod enc Tryz.prog W 0 sp hd 26 v d p):∃ l:List Cf,Rd (envAt W) (Cfs l) v∧Cf.szs l≤Rows.uptoBulk d:=by
 obtain ⟨n,hn⟩:=h
 rw [hv] at hn
 obtain ⟨l,y,e1,e2,e3,e4⟩:=slice_read (c:=Cf.c) (sz:=3) Tryz.underlying26 cCfc (by decide) Cf.c_len (fun r d=>r.sz≤Rows.uptoBulk d) (n:=n) (fun m hm cs x hx=>cf_readB m cs x hx) hn
 simp only [List.cons.injEq,and_true] at e1
 have e3':Rd (envAt W) (Cfs l) y:=by
  show Rd _ (.sl 3 (Cf.cs l)) y
  rw [Cf.cs_eq]; exact e3
 refine ⟨l,e1 ▸ e3',?_⟩
 ·rcases e4 with ⟨rfl,_⟩ | ⟨ds,rest,e5,e6,e7⟩
  ·rw [Cf.szs_nil]; exact Nat.zero_le _
  ·have:=bulk_slice ds l e6 e7
   show _≤Rows.uptoBulk (d,p).1
   rw [e5,Rows.uptoBulk]; omega
end Go.Proofs.YtbmedfjmccnclaaGreat.W
