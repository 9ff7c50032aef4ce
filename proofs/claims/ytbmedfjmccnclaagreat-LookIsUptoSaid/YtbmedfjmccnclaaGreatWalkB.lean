/- Copies; whether expressions are in a grammar. -/
import Derived.Test.YtbmedfjmccnclaaGreatWalkA
import Derived.Test.YtbmedfjmccnclaaGreatMathB
import Derived.Test.YtbmedfjmccnclaaGreatLogicD
import Derived.Test.YtbmedfjmccnclaaGreatMathA
import Derived.Test.YtbmedfjmccnclaaGreatBridgeA
import Derived.ChangeMaps5
import Derived.JoinedCond
import Derived.HandedShaped
import Derived.Shelf.Vars
import Derived.Test.YtbmedfjmccnclaaGreatRows
import Derived.Test.YtbmedfjmccnclaaGreatMathC
import Derived.Test.YtbmedfjmccnclaaGreatLogicE
import Derived.Tactics
import Derived.Tactics2
import Derived.Defers
import Derived.Laws.Pointers
import Derived.Laws.LoneSync
import Derived.RegionTactic
import Derived.RegionCalls
import Derived.ChangeAlike
set_option linter.unusedVariables false
set_option linter.unusedSimpArgs false
set_option linter.unusedSectionVars false
set_option maxRecDepth 100000
namespace Go.Proofs.YtbmedfjmccnclaaGreat.W
open Go Go.Proofs Go.Proofs.YtbmedfjmccnclaaGreat.AWP
open Int renaming reduceEq→iEq,reduceLE→iLE,reduceLT→iLT,reduceToNat→iTN
open List renaming length_map→lMp
attribute [local irreducible] xl hide aop aops aopQ qops guardP condP
end Go.Proofs.YtbmedfjmccnclaaGreat.W
set_option maxRecDepth 100000
namespace Go.Proofs.YtbmedfjmccnclaaGreat.W
open Go Go.Proofs Go.Proofs.YtbmedfjmccnclaaGreat.AWP
open Int renaming reduceEq→iEq,reduceLE→iLE,reduceLT→iLT,reduceToNat→iTN
open List renaming length_map→lMp
attribute [local irreducible] xl hide aop aops aopQ qops guardP condP
theorem wholeSK (ks ds:List ByteArray) (s:ByteArray) (hs:s.size≤65536) (hk:ks.length≤1000000) (hd:ds.length≤1000000) (fr:List Ob):AC Tryz.prog 74 [.ref fr.length 0] (fr++[crOb ks ds s 0]) (fun o om=>∃ om',(o=.ret (wcD (wholeP ks ds s))∧∃ k,om'=[crOb ks ds s k])∧om=fr++om'):=by
 refine (wholeK (ks:=ks) (ds:=ds) hs hk hd).shift rfl ?_ ?_ ?_
 ·intro j d d' h1 h2
  match j with
  | 0=>cases h1; cases h2; exact .inr ⟨0,0,rfl,rfl⟩
  | j+1=>cases h1
 ·intro o ho
  rw [List.mem_singleton.1 ho]
  exact crBl ks ds s 0
 ·rintro o om' ⟨rfl,k,rfl⟩
  refine ⟨rfl,.tup ?_,fun x hx=>?_⟩
  ·intro d hd
   simp only [List.mem_cons,List.not_mem_nil,or_false] at hd
   rcases hd with rfl | rfl | rfl
   ·exact Cf.d_bl _
   ·exact .v _
   ·exact .v _
  ·rw [List.mem_singleton.1 hx]
   exact crBl ks ds s k
def bodiesGo (ks ns:List ByteArray):List Ln→List Df→(Int × Nat) ⊕ List Df
 | [],d=>.inr d
 | x :: l,d=>
  if (wholeP ks ns x.2.2).2.2≠0 then .inl (IntKind.i64.wrap (((x.1+x.2.1.size+3:Nat):Int)+((wholeP ks ns x.2.2).2.1:Int)),(wholeP ks ns x.2.2).2.2)
  else bodiesGo ks ns l (d++[(x.2.1,(wholeP ks ns x.2.2).1)])
def zGr:Gr:=⟨[],[]⟩
def readB (kinds:List ByteArray):(Int × Nat) ⊕ List Df→Gr × Int × Nat
 | .inl (p,e)=>(zGr,p,e)
 | .inr d=>if 2000<grSz d then (zGr,0,4) else (⟨kinds,d⟩,0,0)
def readC (s:ByteArray) (kinds:List ByteArray):Gr × Int × Nat:=
 if 65536<s.size then (zGr,0,3)
 else if kinds.length<1 then (zGr,0,1)
 else if 100<kinds.length then (zGr,0,1)
 else if onceB kinds=false then (zGr,0,1)
 else if (linesR s kinds).2.2≠0 then (zGr,(linesR s kinds).2.1,(linesR s kinds).2.2)
 else readB kinds (bodiesGo kinds ((linesR s kinds).1.map (·.2.1)) (linesR s kinds).1 [])
abbrev readCD (x:Gr × Int × Nat):D:=.tup [.agg x.1.c,.i x.2.1,.i x.2.2]
theorem readCD_bl (x:Gr × Int × Nat):Bl 0 (readCD x):=.tup (by
 intro d hd
 simp only [List.mem_cons,List.not_mem_nil,or_false] at hd
 rcases hd with rfl | rfl | rfl
 ·exact Gr.d_bl _
 ·exact .v _
 ·exact .v _)
theorem cvZ {om:List Ob} {F:Nat→Bool} {kk:List (Option Nat)}:Cv om F kk (.agg [.v (.slice Option.none 0 0),.v (.slice Option.none 0 0)]) (.agg zGr.c):=.aggL ⟨.nil,.nil,trivial⟩
structure LinesOk (kinds:List ByteArray) (n:Nat) (l:List Ln):Prop where
 len:l.length≤50
 at_:∀ x∈l,x.1≤n∧x.2.1.size≤30∧x.2.2.size≤n
set_option maxHeartbeats 8000000 in
theorem cRead (s:ByteArray) (kinds:List ByteArray) (hkn:kinds.length≤1000000) (hks:∀ x∈kinds,x.size≤1000000) (hL:(linesR s kinds).2.2=0→LinesOk kinds s.size (linesR s kinds).1)
  (hM:∀ d,s.size≤65536→1≤kinds.length→kinds.length≤100→onceB kinds=true→bodiesGo kinds ((linesR s kinds).1.map (·.2.1)) (linesR s kinds).1 []=.inr d→(linesR s kinds).2.2=0→GFit ⟨kinds,d⟩∧mayG ⟨kinds,d⟩=decide (grSz d≤2000)) :
  AP Tryz.prog 41 [.s s,Strs kinds] (readCD (readC s kinds)):=by
 have hqk:∀ om (F:Nat→Bool) (kk:List (Option Nat)),Cv om F kk (Strs kinds) (Strs kinds):=fun om F kk=>.same (Strs_bl kinds)
 unfold readC
 refine AC.lbody hT hm Tryz.func41 f41_nm f41_lc f41_res f41_nt ?_
 simp only [go_sem,iEq,iLE,iLT,iTN,lMp]
 by_cases h0:65536<s.size
 ·have h0':(65536:Int)<s.size:=by omega
  rw [if_pos h0]
  simp only [go_sem,iEq,iLE,iLT,iTN,h0']
  exact Fin.ret (.tupL ⟨cvZ,.v,.v,trivial⟩)
 have h0':¬ (65536:Int)<s.size:=by omega
 rw [if_neg h0]
 by_cases h1:kinds.length<1
 ·have h1':(kinds.length:Int)<1:=by omega
  rw [if_pos h1]
  simp only [go_sem,iEq,iLE,iLT,iTN,h0',h1',lMp]
  exact Fin.ret (.tupL ⟨cvZ,.v,.v,trivial⟩)
 have h1':¬ (kinds.length:Int)<1:=by omega
 rw [if_neg h1]
 by_cases h2:100<kinds.length
 ·have h2':(100:Int)<kinds.length:=by omega
  rw [if_pos h2]
  simp only [go_sem,iEq,iLE,iLT,iTN,h0',h1',h2',lMp]
  exact Fin.ret (.tupL ⟨cvZ,.v,.v,trivial⟩)
 have h2':¬ (100:Int)<kinds.length:=by omega
 rw [if_neg h2]
 simp only [go_sem,iEq,iLE,iLT,iTN,h0',h1',h2',lMp]
 refine (once kinds hkn hks).pv ⟨hqk _ _ _,trivial⟩ ?_
 cases ho:onceB kinds with
 | false=>
  rw [if_pos rfl]
  simp only [go_sem,iEq,iLE,iLT,iTN,Bool.not_false]
  exact Fin.ret (.tupL ⟨cvZ,.v,.v,trivial⟩)
 | true=>
 rw [if_neg (by simp)]
 have hne:kinds≠[]:=fun h=>by subst h; exact h1 (by decide)
 simp only [go_sem,iEq,iLE,iLT,iTN,Bool.not_true]
 refine (cLines s (by omega) kinds (by omega) hne).pd ⟨.v,hqk _ _ _,trivial⟩ (linesD_bl _) ?_
 have hM':=fun d=>hM d (by omega) (by omega) (by omega) ho
 clear hM
 generalize linesR s kinds=x at hL hM'
 obtain ⟨l,p,e⟩:=x
 dsimp only at hL hM' ⊢
 by_cases he:e=0
 case neg=>
  have he':((e:Int) != 0)=true:=by simp; omega
  rw [if_pos he]
  simp only [go_sem,iEq,iLE,iLT,iTN,he']
  exact Fin.ret (.tupL ⟨cvZ,.v,.v,trivial⟩)
 subst he
 have he':(((0:Nat):Int) != 0)=false:=rfl
 rw [if_neg (by simp)]
 simp only [go_sem,iEq,iLE,iLT,iTN,he']
 refine ⟨_,cloneS kinds hkn _,?_⟩
 rintro _ _ (⟨h0,rfl,rfl⟩ | ⟨rfl,rfl⟩)
 ·exact absurd h0 hne
 simp only [go_sem,iEq,iLE,iLT,iTN]
 obtain ⟨hl50,hlx⟩:=hL rfl
 have hql:∀ om (F:Nat→Bool) (kk:List (Option Nat)),Cv om F kk (Lns l) (Lns l):=fun om F kk=>.same (Lns_bl l)
 refine xl_loopM hT hm (fun i:Nat=>⟨f41_i15 (Strs kinds) (.ref 0 0) (Lns l) (.ref 2 0) (.own 3) (Lns l) (.i l.length) (.i i),[.var 25 [.v (.slice none 0 0),.v (.slice none 0 0)],strOb kinds,.var 25 [.own 1,.v (.slice none 0 0)],strOb ((l.take i).map (·.2.1))]⟩)
  (fun i=>i≤l.length) (fun i=>l.length - i) 0 (Nat.zero_le _) ?_ ?_
 ·exact Mv.of [some 0,some 2,some 3,none] rfl ⟨.varS rfl (by simp),.slcS rfl (strR_bl _),.varL rfl (by simp [CvL]),.nil (by decide),trivial⟩ (by simp only [f41_i15,CvL]; simp [hqk,hql])
 ·intro i hi
  simp only [go_sem,iEq,iLE,iLT,iTN,lMp]
  by_cases h:i<l.length
  ·obtain ⟨x,hx⟩:=get_ex h
   have hwi:=wrap_succ i (by omega)
   have ht:(l.take (i+1)).map (·.2.1)=(l.take i).map (·.2.1)++[x.2.1]:=by rw [List.take_add_one,hx,List.map_append]; rfl
   simp only [go_sem,iEq,iLE,iLT,iTN,h,hx,lMp,hwi]
   refine ⟨by rw [List.length_take]; omega,i+1,h,by omega,?_⟩
   rw [ht]
   exact Mv.of [some 0,some 1,some 2,some 5] rfl ⟨.varS rfl (by simp),.slcS rfl (strR_bl _),.varL rfl (by simp [CvL]),.slcS (by simp) (strR_bl _),trivial⟩ (by simp only [CvL]; simp [hqk,hql])
  have ht:l.take i=l:=List.take_of_length_le (by omega)
  simp only [go_sem,iEq,iLE,iLT,iTN,h,lMp]
  rw [ht]
  clear ht h hi
  have hqn:∀ om (F:Nat→Bool) (kk:List (Option Nat)),Cv om F kk (Strs (l.map (·.2.1))) (Strs (l.map (·.2.1))):=fun om F kk=>.same (Strs_bl _)
  have hnl:(l.map (·.2.1)).length≤1000000:=by simp; omega
  generalize hns:l.map (·.2.1)=ns at hM' hqn hnl
  refine xl_loopM hT hm (fun i:Nat × List Df=>⟨f41_i24 (Strs kinds) (.ref 0 0) (.ref 2 0) (Strs ns) (Lns l) (.i l.length) (.i i.1),[.var 25 [.v (.slice none 0 0),.v (.slice none 0 0)],strOb kinds,.var 25 [.own 1,.own 3],.slc 43 4 (dfR i.2)]⟩)
   (fun i=>i.1≤l.length∧i.2.length=i.1∧bodiesGo kinds ns l []=bodiesGo kinds ns (l.drop i.1) i.2) (fun i=>l.length - i.1) (0,[]) ⟨Nat.zero_le _,rfl,rfl⟩ ?_ ?_
  ·exact Mv.of [some 0,some 1,some 2,none] rfl ⟨.varS rfl (by simp),.slcS rfl (strR_bl _),.varL rfl (by simp [CvL]),.nil (by decide),trivial⟩ (by simp only [f41_i24,CvL]; simp [hqk,hql]; exact .frzS rfl rfl (strR_bl _))
  rintro ⟨i,d⟩ ⟨hi,hdl,hgo⟩
  dsimp only at hi hdl hgo
  simp only [go_sem,iEq,iLE,iLT,iTN,lMp]
  by_cases h:i<l.length
  case neg=>
   have hend:bodiesGo kinds ns l []=.inr d:=by rw [hgo,List.drop_of_length_le (by omega),bodiesGo]
   obtain ⟨hF,hMay⟩:=hM' d hend rfl
   have hMG:=cMayG ⟨kinds,d⟩ hF
   rw [hMay] at hMG
   rw [hend]
   simp only [go_sem,iEq,iLE,iLT,iTN,h,lMp]
   refine hMG.pv ⟨.aggL ⟨.frzS rfl rfl (strR_bl _),.frzS rfl rfl (dfR_bl _),trivial⟩,trivial⟩ ?_
   rw [show readB kinds (.inr d)=(if 2000<grSz d then (zGr,0,4) else (⟨kinds,d⟩,0,0)) from rfl]
   by_cases hz:grSz d≤2000
   ·rw [decide_eq_true hz,if_neg (by omega)]
    simp only [go_sem,iEq,iLE,iLT,iTN,Bool.not_true]
    exact Fin.ret (.tupL ⟨.aggL ⟨.frzS rfl rfl (strR_bl _),.frzS rfl rfl (dfR_bl _),trivial⟩,.v,.v,trivial⟩)
   ·rw [decide_eq_false hz,if_pos (by omega)]
    simp only [go_sem,iEq,iLE,iLT,iTN,Bool.not_false]
    exact Fin.ret (.tupL ⟨cvZ,.v,.v,trivial⟩)
  obtain ⟨x,hx⟩:=get_ex h
  have hxs:=hlx x (List.mem_of_getElem? hx)
  have hwi:=wrap_succ i (by omega)
  rw [drop_get hx,bodiesGo] at hgo
  have hW:=wholeSK kinds ns x.2.2 (by omega) hkn hnl
  simp only [go_sem,iEq,iLE,iLT,iTN,h,hx,lMp]
  refine ⟨_,hW [_,_,_,_,_],?_⟩
  rintro _ _ ⟨_,⟨rfl,k,rfl⟩,rfl⟩
  clear hW
  generalize wholeP kinds ns x.2.2=w at hgo
  obtain ⟨c,pl,e⟩:=w
  dsimp only at hgo
  by_cases he:e=0
  case neg=>
   have he2:((e:Int) != 0)=true:=by simp; omega
   have hw1:IntKind.i64.wrap ((x.1:Int)+(x.2.1.size:Int))=((x.1+x.2.1.size:Nat):Int):=by rw [wrap_int _ (by omega) (by omega)]; omega
   have hw2:IntKind.i64.wrap (((x.1+x.2.1.size:Nat):Int)+3)=((x.1+x.2.1.size+3:Nat):Int):=by rw [wrap_int _ (by omega) (by omega)]; omega
   rw [if_pos he] at hgo
   rw [hgo]
   simp only [go_sem,iEq,iLE,iLT,iTN,he2,hw1,hw2]
   refine free_gen (fun i=>([.agg [.v (.slice none 0 0),.v (.slice none 0 0)],.ref 4 0,.i x.1,.ref 4 1,.s x.2.1,.i x.2.1.size,.i (x.1+x.2.1.size:Nat),.i (x.1+x.2.1.size+3:Nat),.i pl,.i (IntKind.i64.wrap (((x.1+x.2.1.size+3:Nat):Int)+(pl:Int))),.i e,.any,.i (IntKind.i64.wrap (((x.1+x.2.1.size+3:Nat):Int)+(pl:Int))),.i e]:List D).getD i .any) [4,15,17,18] (by rfl) ?_ ?_
   ·intro i o hio env' hlen hkeep hdep K' hK'
    have k4:env'.getD 4 .any=.ref 0 0:=hkeep 4 (by simp)
    have k15:env'.getD 15 .any=.ref 4 0:=hkeep 15 (by simp)
    have k17:env'.getD 17 .any=.i pl:=hkeep 17 (by simp)
    have k18:env'.getD 18 .any=.i e:=hkeep 18 (by simp)
    have hi:i<14:=(List.getElem?_eq_some_iff.1 hio).1
    match i,hi with
    | 0,_=>
     cases hio
     simp only [go_sem,iEq,iLE,iLT,iTN,evD_tmp]
     exact hK'
    | 1,_=>
     cases hio
     simp only [go_sem,iEq,iLE,iLT,iTN,evD_tmp,k15]
     exact hK'
    | 2,_=>
     cases hio
     have d:=hdep 1 (by decide) 86 rfl
     simp only [go_sem,iEq,iLE,iLT,iTN,evD_tmp,d]
     exact hK'
    | 3,_=>
     cases hio
     simp only [go_sem,iEq,iLE,iLT,iTN,evD_tmp,k15]
     exact hK'
    | 4,_=>
     cases hio
     have d3:=hdep 3 (by decide) 88 rfl
     simp only [go_sem,iEq,iLE,iLT,iTN,evD_tmp,d3]
     exact hK'
    | 5,_=>
     cases hio
     have d4:=hdep 4 (by decide) 89 rfl
     simp only [go_sem,iEq,iLE,iLT,iTN,evD_tmp,d4]
     exact hK'
    | 6,_=>
     cases hio
     have d2:=hdep 2 (by decide) 87 rfl
     have d5:=hdep 5 (by decide) 90 rfl
     simp only [go_sem,iEq,iLE,iLT,iTN,evD_tmp,d2,d5,hw1]
     exact hK'
    | 7,_=>
     cases hio
     have d6:=hdep 6 (by decide) 91 rfl
     simp only [go_sem,iEq,iLE,iLT,iTN,evD_tmp,d6,hw2]
     exact hK'
    | 8,_=>
     cases hio
     simp only [go_sem,iEq,iLE,iLT,iTN,evD_tmp,k17]
     exact hK'
    | 9,_=>
     cases hio
     have d7:=hdep 7 (by decide) 92 rfl
     have d8:=hdep 8 (by decide) 93 rfl
     simp only [go_sem,iEq,iLE,iLT,iTN,evD_tmp,d7,d8]
     exact hK'
    | 10,_=>
     cases hio
     simp only [go_sem,iEq,iLE,iLT,iTN,evD_tmp,k18]
     exact hK'
    | 11,_=>
     cases hio
     have d0:=hdep 0 (by decide) 85 rfl
     simp only [go_sem,iEq,iLE,iLT,iTN,evD_tmp,d0,k4]
     exact hK'
    | 12,_=>
     cases hio
     have d9:=hdep 9 (by decide) 94 rfl
     simp only [go_sem,iEq,iLE,iLT,iTN,evD_tmp,d9]
     exact hK'
    | 13,_=>
     cases hio
     have d10:=hdep 10 (by decide) 95 rfl
     simp only [go_sem,iEq,iLE,iLT,iTN,evD_tmp,d10]
     exact hK'
    | i+14,hi=>exact absurd hi (by omega)
   ·intro env' hlen hkeep hV
    have k4:env'.getD 4 .any=.ref 0 0:=hkeep 4 (by simp)
    have k5:env'.getD 5 .any=.i (IntKind.i64.wrap (((x.1+x.2.1.size+3:Nat):Int)+(pl:Int))):=hV 12 5 rfl
    have k6:env'.getD 6 .any=.i e:=hV 13 6 rfl
    rw [show readB kinds (.inl (IntKind.i64.wrap (((x.1+x.2.1.size+3:Nat):Int)+(pl:Int)),e))=(zGr,IntKind.i64.wrap (((x.1+x.2.1.size+3:Nat):Int)+(pl:Int)),e) from rfl]
    simp only [go_sem,iEq,iLE,iLT,iTN,evD_tmp,k4,k5,k6]
    exact Fin.ret (.tupL ⟨cvZ,.v,.v,trivial⟩)
  subst he
  have he2:(((0:Nat):Int) != 0)=false:=rfl
  rw [if_neg (by simp)] at hgo
  simp only [go_sem,iEq,iLE,iLT,iTN,he2,lMp,hwi,Cf.c_take]
  exact ⟨by omega,(i+1,d++[(x.2.1,c)]),⟨h,by simp; omega,hgo⟩,by dsimp only; omega,Mv.of [some 0,some 1,some 2,some 7] rfl ⟨.varS rfl (by simp),.slcS rfl (strR_bl _),.varL rfl (by simp [CvL]),.slcS (by simp) (dfR_bl _),trivial⟩ (by simp only [f41_i24,CvL]; simp [hqk,hql,hqn])⟩
end Go.Proofs.YtbmedfjmccnclaaGreat.W
set_option maxRecDepth 100000
namespace Go.Proofs.YtbmedfjmccnclaaGreat.W
open Go Go.Proofs Go.Proofs.YtbmedfjmccnclaaGreat.AWP
open Int renaming reduceEq→iEq,reduceLE→iLE,reduceLT→iLT,reduceToNat→iTN
open List renaming length_map→lMp
theorem cutL_sz2 (s sep:ByteArray):(cutL s sep).2.1.size≤s.size:=by
 unfold cutL Go.Lib.cut
 split
 ·rename_i a b c h
  split at h
  ·cases h
   show (List.drop _ s.data.toList).toArray.size≤_
   simp only [List.size_toArray,List.length_drop,Array.length_toList]
   show s.size - _≤_
   omega
  ·cases h
   exact Nat.zero_le _
theorem nameB_szC {s:ByteArray} (h:nameB s=true):s.size≤30:=by
 unfold nameB at h
 simp only [Bool.and_eq_true,decide_eq_true_eq] at h
 exact h.2.2
structure LnJ (tot:Nat) (kinds:List ByteArray) (l:List Ln):Prop where
 len:l.length≤50
 sz:∀ x∈l,x.1≤tot∧x.2.1.size≤30∧x.2.2.size≤tot
 nm:∀ x∈l,nameB x.2.1=true
 nd:kinds.Nodup→(metC kinds l).Nodup
theorem lnJ_step {tot:Nat} {kinds:List ByteArray} {l:List Ln} {a:Nat} {ln:ByteArray} {l':List Ln} {a':Nat} (hJ:LnJ tot kinds l) (ha:a+ln.size≤tot) (h:lnStep tot kinds l a ln=.inr (l',a')):LnJ tot kinds l'∧a'=a+ln.size:=by
 obtain ⟨h1,rfl,h3,h4,h5⟩:=lnK_inr h
 obtain ⟨j1,j2,j3,j4⟩:=hJ
 have hs:=csuf_szC 10 ln
 have hs2:=cutL_sz2 (csuf 10 ln).1 eqS
 refine ⟨⟨by simp; omega,fun x hx=>?_,fun x hx=>?_,fun hkn=>?_⟩,h3⟩
 ·rcases List.mem_append.1 hx with hx | hx
  ·exact j2 x hx
  ·rw [List.mem_singleton.1 hx]
   exact ⟨by dsimp only; omega,nameB_szC h4,by dsimp only; omega⟩
 ·rcases List.mem_append.1 hx with hx | hx
  ·exact j3 x hx
  ·rw [List.mem_singleton.1 hx]; exact h4
 ·have e:metC kinds (l++[(a,(cutL (csuf 10 ln).1 eqS).1,(cutL (csuf 10 ln).1 eqS).2.1)])=metC kinds l++[(cutL (csuf 10 ln).1 eqS).1]:=by simp [metC]
  rw [e,List.nodup_append]
  refine ⟨j4 hkn,by simp,fun x hx y hy hxy=>?_⟩
  rw [List.mem_singleton.1 hy] at hxy
  have:=List.any_eq_false.1 h5 x hx
  simp only [decide_eq_true_eq] at this
  exact this hxy.symm
theorem lnGo_J {tot:Nat} {kinds:List ByteArray}:∀ (n:Nat) (r:ByteArray) (l:List Ln) (a:Nat) {l':List Ln} {a':Nat},LnJ tot kinds l→a+r.size≤tot→lnGo tot kinds n r l a=.inr (l',a')→LnJ tot kinds l':=by
 intro n
 induction n with
 | zero=>
  intro r l a l' a' hJ ha h
  rw [lnGo] at h; cases h; exact hJ
 | succ n ih=>
  intro r l a l' a' hJ ha h
  rw [lnGo] at h
  split at h
  ·cases h; exact hJ
  ·rename_i h0
   have hl:=lineOfC_size r (by omega)
   split at h
   ·cases h
   ·rename_i l1 a1 hst
    obtain ⟨hJ1,e⟩:=lnJ_step hJ (by omega) hst
    exact ih _ _ _ hJ1 (by omega) h
theorem linesR_J (s:ByteArray) (kinds:List ByteArray) (h:(linesR s kinds).2.2=0) (he:∀ p e,lnGo s.size kinds s.size s [] 0=.inl (p,e)→e≠0):LnJ s.size kinds (linesR s kinds).1:=by
 have h0:LnJ s.size kinds []:=⟨by simp,by simp,by simp,fun h=>by simpa [metC] using h⟩
 have key:=@lnGo_J s.size kinds s.size s [] 0
 unfold linesR at h ⊢
 generalize lnGo s.size kinds s.size s [] 0=q at h he key ⊢
 cases q with
 | inl q=>
  obtain ⟨p,e⟩:=q
  exact absurd h (he p e rfl)
 | inr q=>
  obtain ⟨l,a⟩:=q
  rw [show linesQ (.inr (l,a))=(if l=[] then ([],0,2) else (l,0,0)) from rfl] at h ⊢
  split
  ·exact h0
  ·exact key h0 (by omega) rfl
theorem lnK_inl {tot:Nat} {kinds:List ByteArray} {out:List Ln} {a sz:Nat} {ended:Bool} {k:ByteArray × ByteArray × Bool} {p e:Nat} (h:lnK tot kinds out a sz ended k=.inl (p,e)):e≠0:=by
 unfold lnK at h
 split at h
 ·cases h; simp
 split at h
 ·cases h; simp
 split at h
 ·cases h; simp
 split at h
 ·cases h; simp
 split at h
 ·cases h; simp
 ·cases h
theorem lnGo_e {tot:Nat} {kinds:List ByteArray}:∀ (n:Nat) (r:ByteArray) (l:List Ln) (a:Nat) {p e:Nat},lnGo tot kinds n r l a=.inl (p,e)→e≠0:=by
 intro n
 induction n with
 | zero=>intro r l a p e h; rw [lnGo] at h; cases h
 | succ n ih=>
  intro r l a p e h
  rw [lnGo] at h
  split at h
  ·cases h
  ·split at h
   ·rename_i q hst
    cases h
    exact lnK_inl hst
   ·exact ih _ _ _ h
theorem bodiesGo_inr {ks ns:List ByteArray}:∀ (l:List Ln) (d0:List Df) {d:List Df},bodiesGo ks ns l d0=.inr d→d=d0++l.map (fun x=>(x.2.1,(wholeP ks ns x.2.2).1))∧∀ x∈l,(wholeP ks ns x.2.2).2.2=0
 | [],d0,d,h=>by rw [bodiesGo] at h; cases h; simp
 | x :: l,d0,d,h=>by
  rw [bodiesGo] at h
  split at h
  ·cases h
  ·rename_i h0
   obtain ⟨h1,h2⟩:=bodiesGo_inr l _ h
   refine ⟨by rw [h1]; simp,fun y hy=>?_⟩
   rcases List.mem_cons.1 hy with rfl | hy
   ·simpa using h0
   ·exact h2 y hy
theorem grSz_le_of {d:List Df} {m:Nat}:(∀ x∈d,x.2.sz≤m)→grSz d≤d.length * m:=by
 induction d with
 | nil=>intro _; simp [grSz,Cf.szs_nil]
 | cons x d ih=>
  intro h
  have h1:=h x (by simp)
  have h2:=ih fun y hy=>h y (by simp [hy])
  unfold grSz at h2 ⊢
  rw [List.map_cons,Cf.szs_cons,List.length_cons,Nat.add_mul]
  omega
theorem read_may (s:ByteArray) (hs:s.size≤65536) (kinds:List ByteArray) (hks:∀ x∈kinds,x.size≤1000000) (d:List Df) (h1:1≤kinds.length) (h2:kinds.length≤100) (ho:onceB kinds=true)
  (hb:bodiesGo kinds ((linesR s kinds).1.map (·.2.1)) (linesR s kinds).1 []=.inr d) (he:(linesR s kinds).2.2=0) (hne:(linesR s kinds).1≠[]):GFit ⟨kinds,d⟩∧mayG ⟨kinds,d⟩=decide (grSz d≤2000):=by
 have hon:kinds.all nameB=true∧kinds.Nodup:=by unfold onceB at ho; simpa using ho
 obtain ⟨j1,j2,j3,j4⟩:=linesR_J s kinds he fun p e h=>lnGo_e _ _ _ _ h
 generalize (linesR s kinds).1=l at *
 obtain ⟨hd,hw⟩:=bodiesGo_inr l [] hb
 rw [List.nil_append] at hd
 have hnm:d.map (·.1)=l.map (·.2.1):=by rw [hd,List.map_map]; rfl
 have hdl:d.length=l.length:=by rw [hd]; simp
 have hgood:∀ x∈d,x.2.sz≤131072∧x.2.may kinds.length d.length=true:=by
  intro x hx
  rw [hd] at hx
  obtain ⟨y,hy,rfl⟩:=List.mem_map.1 hx
  have hg:=wholeP_good kinds (l.map (·.2.1)) y.2.2 (hw y hy)
  have:=(j2 y hy).2.2
  refine ⟨by dsimp only; omega,?_⟩
  have hl:(l.map (·.2.1)).length=d.length:=by rw [hdl]; simp
  rw [hl] at hg
  exact hg.2
 have hz:=grSz_le_of fun x hx=>(hgood x hx).1
 have hzz:d.length * 131072≤50 * 131072:=Nat.mul_le_mul_right _ (by omega)
 have hlp:=List.length_pos_iff.2 hne
 have hgn:grNms ⟨kinds,d⟩=metC kinds l:=by unfold grNms metC; rw [← hnm]
 refine ⟨⟨by dsimp only; omega,by dsimp only; omega,by dsimp only; omega,fun x hx=>?_⟩,?_⟩
 ·rw [hgn] at hx
  rcases List.mem_append.1 hx with hx | hx
  ·exact hks x hx
  ·obtain ⟨y,hy,rfl⟩:=List.mem_map.1 hx
   have:=(j2 y hy).2.1; omega
 ·have hob:onceB (grNms ⟨kinds,d⟩)=true:=by
   rw [hgn]
   unfold onceB
   rw [decide_eq_true (j4 hon.2),Bool.and_true,List.all_eq_true]
   intro x hx
   rcases List.mem_append.1 hx with hx | hx
   ·exact List.all_eq_true.1 hon.1 x hx
   ·obtain ⟨y,hy,rfl⟩:=List.mem_map.1 hx
    exact j3 y hy
  have hdo:defsOk ⟨kinds,d⟩=true:=by
   unfold defsOk
   rw [List.all_eq_true]
   exact fun x hx=>(hgood x hx).2
  unfold mayG
  rw [hob,hdo]
  dsimp only
  rw [decide_eq_true h1,decide_eq_true h2,decide_eq_true (show 1≤d.length by omega),decide_eq_true (show d.length≤50 by omega)]
  rfl
theorem linesR_ne (s:ByteArray) (kinds:List ByteArray) (h:(linesR s kinds).2.2=0):(linesR s kinds).1≠[]:=by
 have he:=@lnGo_e s.size kinds s.size s [] 0
 unfold linesR at h ⊢
 generalize lnGo s.size kinds s.size s [] 0=q at h he ⊢
 cases q with
 | inl q=>obtain ⟨p,e⟩:=q; exact absurd h (he rfl)
 | inr q=>
  obtain ⟨l,a⟩:=q
  rw [show linesQ (.inr (l,a))=(if l=[] then ([],0,2) else (l,0,0)) from rfl] at h ⊢
  split at h
  ·cases h
  ·rename_i hl; rw [if_neg hl]; exact hl
theorem linesOk (s:ByteArray) (kinds:List ByteArray) (h:(linesR s kinds).2.2=0):LinesOk kinds s.size (linesR s kinds).1:=by
 obtain ⟨j1,j2,_,_⟩:=linesR_J s kinds h fun p e h=>lnGo_e _ _ _ _ h
 exact ⟨j1,j2⟩
theorem cReadA (s:ByteArray) (kinds:List ByteArray) (hkn:kinds.length≤1000000) (hks:∀ x∈kinds,x.size≤1000000):AP Tryz.prog 41 [.s s,Strs kinds] (readCD (readC s kinds)):=
 cRead s kinds hkn hks (linesOk s kinds) fun d hs h1 h2 ho hb he=>read_may s hs kinds hks d h1 h2 ho hb he (linesR_ne s kinds he)
end Go.Proofs.YtbmedfjmccnclaaGreat.W
set_option maxRecDepth 100000
namespace Go.Proofs.YtbmedfjmccnclaaGreat.W
open Go Go.Proofs Go.Proofs.YtbmedfjmccnclaaGreat.AWP
open Int renaming reduceEq→iEq,reduceLE→iLE,reduceLT→iLT,reduceToNat→iTN
open List renaming length_map→lMp
attribute [local irreducible] xl hide aop aops aopQ qops guardP condP
end Go.Proofs.YtbmedfjmccnclaaGreat.W
set_option maxRecDepth 100000
namespace Go.Proofs.YtbmedfjmccnclaaGreat.W
open Go Go.Proofs Go.Proofs.YtbmedfjmccnclaaGreat.AWP
open Int renaming reduceEq→iEq,reduceLE→iLE,reduceLT→iLT,reduceToNat→iTN
open List renaming length_map→lMp
open _root_.Bool renaming true_or → za, false_or → zb
attribute [local irreducible] xl hide aop aops aopQ qops guardP condP
def greatD (x:Df):Bool:=decide (100<x.1.size) || decide (60<x.2.cnt 60)
def greatB (g:Gr):Bool:=decide (12<g.kinds.length) || (decide (12<g.defs.length) || ((g.kinds.any fun x=>decide (100<x.size)) || g.defs.any greatD))
theorem any_drop {α:Type} {p:α→Bool} {l:List α} {i:Nat} {x:α} (h:l[i]? = some x):(l.drop i).any p=(p x || (l.drop (i+1)).any p):=by rw [drop_get h,List.any_cons]
set_option maxHeartbeats 2000000 in
theorem rGreat (g:Gr):AP Tryz.prog 11 [.agg g.c] (.b (greatB g)):=by
 have hq:=pelG g
 unfold greatB
 refine AC.lbody hT hm Tryz.func11 f11_nm f11_lc f11_res f11_nt ?_
 simp only [go_sem,iEq,iLE,iLT,iTN,lMp]
 by_cases h1:12<g.kinds.length
 ·have h1':(12:Int)<g.kinds.length:=by omega
  simp only [go_sem,iEq,iLE,iLT,iTN,h1',lMp]
  exact Fin.v (by rw [decide_eq_true h1,za])
 have h1':¬ (12:Int)<g.kinds.length:=by omega
 by_cases h2:12<g.defs.length
 ·have h2':(12:Int)<g.defs.length:=by omega
  simp only [go_sem,iEq,iLE,iLT,iTN,h1',h2',lMp]
  exact Fin.v (by rw [decide_eq_true h2,za,Bool.or_true])
 have h2':¬ (12:Int)<g.defs.length:=by omega
 rw [decide_eq_false h1,decide_eq_false h2,zb,zb]
 simp only [go_sem,iEq,iLE,iLT,iTN,h1',h2',lMp]
 refine xl_loopM hT hm (fun i:Nat=>⟨f11_i9 (.pel g.c) (.i g.kinds.length) (.i i),[]⟩)
  (fun i=>i≤g.kinds.length∧(g.kinds.any fun x=>decide (100<x.size))=(g.kinds.drop i).any fun x=>decide (100<x.size)) (fun i=>g.kinds.length - i) 0 ⟨Nat.zero_le _,rfl⟩ (Mv.none (by simp only [f11_i9,CvL]; simp [hq])) ?_
 rintro i ⟨hi,hn⟩
 simp only [go_sem,iEq,iLE,iLT,iTN,lMp]
 by_cases h:i<g.kinds.length
 ·obtain ⟨x,hx⟩:=get_ex h
  have hwi:=wrap_succ i (by omega)
  have hst:=any_drop (p:=fun x:ByteArray=>decide (100<x.size)) hx
  by_cases h3:100<x.size
  ·have h3':(100:Int)<x.size:=by omega
   simp only [go_sem,iEq,iLE,iLT,iTN,h,hx,str_get hx,h3',lMp]
   exact Fin.v (by rw [hn,hst,decide_eq_true h3,za,za])
  ·have h3':¬ (100:Int)<x.size:=by omega
   simp only [go_sem,iEq,iLE,iLT,iTN,h,hx,str_get hx,h3',lMp,hwi]
   exact ⟨i+1,⟨h,by rw [hn,hst,decide_eq_false h3,zb]⟩,by omega,Mv.none (by simp only [CvL]; simp [hq])⟩
 have e1:(g.kinds.any fun x=>decide (100<x.size))=false:=by rw [hn,drop_end h]; rfl
 rw [e1,zb]
 simp only [go_sem,iEq,iLE,iLT,iTN,h,lMp]
 clear h hi hn
 refine xl_loopM hT hm (fun i:Nat=>⟨f11_i16 (.pel g.c) (.i g.defs.length) (.i i),[]⟩)
  (fun i=>i≤g.defs.length∧g.defs.any greatD=(g.defs.drop i).any greatD) (fun i=>g.defs.length - i) 0 ⟨Nat.zero_le _,rfl⟩ (Mv.none (by simp only [f11_i16,CvL]; simp [hq])) ?_
 rintro i ⟨hi,hn⟩
 simp only [go_sem,iEq,iLE,iLT,iTN,lMp]
 by_cases h:i<g.defs.length
 ·obtain ⟨x,hx⟩:=get_ex h
  have hwi:=wrap_succ i (by omega)
  have hst:=any_drop (p:=greatD) hx
  by_cases h3:100<x.1.size
  ·have h3':(100:Int)<x.1.size:=by omega
   simp only [go_sem,iEq,iLE,iLT,iTN,h,hx,df_0,h3',lMp]
   exact Fin.v (by rw [hn,hst]; unfold greatD; rw [decide_eq_true h3,za,za])
  ·have h3':¬ (100:Int)<x.1.size:=by omega
   simp only [go_sem,iEq,iLE,iLT,iTN,h,hx,df_0,df_drop,df_len,h3',lMp,Cf.c_take]
   refine (rCount 60 x.2).pv ⟨.same (Cf.d_bl _),.v,trivial⟩ ?_
   by_cases h4:60<x.2.cnt 60
   ·simp only [go_sem,iEq,iLE,iLT,iTN,h4]
    exact Fin.v (by rw [hn,hst]; unfold greatD; rw [decide_eq_true h4,Bool.or_true,za])
   ·simp only [go_sem,iEq,iLE,iLT,iTN,h4,hwi]
    exact ⟨i+1,⟨h,by rw [hn,hst]; unfold greatD; rw [decide_eq_false h3,decide_eq_false h4]; rfl⟩,by omega,Mv.none (by simp only [CvL]; simp [hq])⟩
 have e2:g.defs.any greatD=false:=by rw [hn,drop_end h]; rfl
 simp only [go_sem,iEq,iLE,iLT,iTN,h,lMp]
 exact Fin.v (by rw [e2])
end Go.Proofs.YtbmedfjmccnclaaGreat.W
set_option maxRecDepth 100000
namespace Go.Proofs.YtbmedfjmccnclaaGreat.W
open Go Go.Proofs Go.Proofs.YtbmedfjmccnclaaGreat.AWP
open Int renaming reduceEq→iEq,reduceLE→iLE,reduceLT→iLT,reduceToNat→iTN
open List renaming length_map→lMp
open _root_.Bool renaming and_eq_true → za
theorem mayG_facts {g:Gr} (h:mayG g=true):(∀ x∈g.kinds,x.size≤30)∧(∀ x∈g.defs,x.1.size≤30∧x.2.may g.kinds.length g.defs.length=true)∧1≤g.kinds.length∧g.kinds.length≤100∧1≤g.defs.length∧g.defs.length≤50∧onceB (grNms g)=true∧grSz g.defs≤2000:=by
 unfold mayG at h
 simp only [za,decide_eq_true_eq] at h
 obtain ⟨⟨h1,h2,h3,h4,h5⟩,h6,h7⟩:=h
 have hn:∀ x∈grNms g,x.size≤30:=by
  intro x hx
  unfold onceB at h5
  rw [za,List.all_eq_true] at h5
  have:=h5.1 x hx
  unfold nameB at this
  simp only [za,decide_eq_true_eq] at this
  exact this.2.2
 refine ⟨fun x hx=>hn x (List.mem_append.2 (.inl hx)),fun x hx=>⟨hn _ (List.mem_append.2 (.inr (List.mem_map.2 ⟨x,hx,rfl⟩))),?_⟩,h1,h2,h3,h4,h5,h7⟩
 unfold defsOk at h6
 exact List.all_eq_true.1 h6 x hx
theorem GFit_may {g:Gr} (h:mayG g=true):GFit g:=by
 obtain ⟨h1,h2,h3,h4,h5,h6,h7,h8⟩:=mayG_facts h
 refine ⟨by omega,by omega,by omega,fun x hx=>?_⟩
 rcases List.mem_append.1 hx with hx | hx
 ·have:=h1 x hx; omega
 ·obtain ⟨y,hy,rfl⟩:=List.mem_map.1 hx
  have:=(h2 y hy).1; omega
theorem great_fit {g:Gr} (h:greatB g=false) (hz:∀ x∈g.defs,x.2.sz≤1099511627776):GFit g∧g.kinds.length≤12∧g.defs.length≤12∧(∀ x∈g.kinds,x.size≤100)∧(∀ x∈g.defs,x.1.size≤100∧x.2.sz≤60)∧grSz g.defs≤720:=by
 unfold greatB at h
 simp only [Bool.or_eq_false_iff,decide_eq_false_iff_not] at h
 obtain ⟨h1,h2,h3,h4⟩:=h
 have hk:∀ x∈g.kinds,x.size≤100:=by
  intro x hx
  have:=List.any_eq_false.1 h3 x hx
  simp only [decide_eq_true_eq] at this
  omega
 have hd:∀ x∈g.defs,x.1.size≤100∧x.2.sz≤60:=by
  intro x hx
  have:=List.any_eq_false.1 h4 x hx
  unfold greatD at this
  simp only [Bool.or_eq_true,decide_eq_true_eq,not_or] at this
  have hc:=Cf.cnt_ok 60 x.2 (hz x hx)
  have:=hc.1 (by omega)
  exact ⟨by omega,by omega⟩
 have hs:=grSz_le_of fun x hx=>(hd x hx).2
 have hs2:g.defs.length * 60≤12 * 60:=Nat.mul_le_mul_right _ (by omega)
 refine ⟨⟨by omega,by omega,by omega,fun x hx=>?_⟩,by omega,by omega,hk,hd,by omega⟩
 rcases List.mem_append.1 hx with hx | hx
 ·have:=hk x hx; omega
 ·obtain ⟨y,hy,rfl⟩:=List.mem_map.1 hx
  have:=(hd y hy).1; omega
end Go.Proofs.YtbmedfjmccnclaaGreat.W
set_option maxRecDepth 100000
namespace Go.Proofs.YtbmedfjmccnclaaGreat.W
open Go Go.Proofs Go.Proofs.YtbmedfjmccnclaaGreat.AWP Go.Proofs.YtbmedfjmccnclaaGreat
open Int renaming reduceEq→iEq,reduceLE→iLE,reduceLT→iLT,reduceToNat→iTN
open List renaming length_map→lMp
open Go.ChangeShapes Go.WideShapes Go.ChangeAt Go.RowKit
theorem cU8c:Tryz.prog.cellsOf 5=1:=by kernel_rfl
theorem cIntc:Tryz.prog.cellsOf 3=1:=by kernel_rfl
theorem cStrc:Tryz.prog.cellsOf 9=1:=by kernel_rfl
theorem cCfsc:Tryz.prog.cellsOf 26=1:=by kernel_rfl
theorem cCfc:Tryz.prog.cellsOf 28=3:=by kernel_rfl
theorem cfT:∃ f0 f1 f2:Field,Tryz.prog.underlying 28=some (.struct #[f0,f1,f2])∧(f0.type=5∧f0.offset=0)∧(f1.type=3∧f1.offset=1)∧(f2.type=26∧f2.offset=1+1):=
 ⟨_,_,_,Tryz.underlying28,⟨rfl,rfl⟩,⟨rfl,rfl⟩,⟨rfl,rfl⟩⟩
theorem bulk_slice {H:Type}:∀ (ds:List (DataW H)) (l:List Cf),ds.length=l.length→(∀ (i:Nat) (a:Cf) (d:DataW H),l[i]? = some a→ds[i]? = some d→a.sz≤Rows.uptoBulk d)→Cf.szs l≤Rows.uptoBulkAll ds
 | [],[],_,_=>by rw [Cf.szs_nil]; exact Nat.zero_le _
 | d :: ds,x :: l,hl,h=>by
  have h1:=h 0 x d rfl rfl
  have h2:=bulk_slice ds l (by simpa using hl) fun i a e ha he=>h (i+1) a e (by simpa using ha) (by simpa using he)
  rw [Cf.szs_cons,Rows.uptoBulkAll]; omega
 | [],x :: l,hl,_=>by simp at hl
 | d :: ds,[],hl,_=>by simp at hl
theorem cf_readB {H:Type} {enc:TypeId × Value→H} {W:World} {sp:Nat→Bool} {hd:Bool}:∀ (n:Nat) (cs:List Value) (x:DataW H × List MemPlace),DataW.trod enc Tryz.prog W 0 sp hd n 28 cs=some x→∃ r:Cf,CellsL (envAt W) cs r.c∧r.sz≤Rows.uptoBulk x.1:=by
 intro n
 induction n using Nat.strongRecOn with
 | _ n ih=>
  intro cs x hx
  obtain ⟨k,m,l,d,d',d2,h1,h2,h3,h4,h5⟩:=struct3_read (c:=fun k:Int=>[D.v (.int .u8 k)]) (c':=fun k:Int=>[D.v (.int .i64 k)]) (c2:=fun l:List Cf=>[Cfs l]) (k0:=1) (k1:=1) (k2:=1) cfT cU8c cIntc cCfsc cCfc (fun _ _=>True) (fun _ _=>True) (fun l d=>Cf.szs l≤Rows.uptoBulk d)
   (fun m hm cs x hx=>by obtain ⟨z,_,h,_⟩:=int_read Tryz.underlying5 hx; exact ⟨z,h,trivial⟩)
   (fun m hm cs x hx=>by obtain ⟨z,_,h,_⟩:=int_read Tryz.underlying3 hx; exact ⟨z,h,trivial⟩)
   (fun m hm cs x hx=>by
    obtain ⟨l,y,e1,e2,e3,e4⟩:=slice_read (c:=Cf.c) (sz:=3) Tryz.underlying26 cCfc (by decide) Cf.c_len (fun r d=>r.sz≤Rows.uptoBulk d) (n:=m) (fun m' hm' cs x hx=>ih m' (by omega) cs x hx) hx
    refine ⟨l,?_,?_⟩
    ·rw [e1]
     refine CellsL.one e2 ?_
     show Rd _ (.sl 3 (Cf.cs l)) y
     rw [Cf.cs_eq]; exact e3
    ·rcases e4 with ⟨rfl,_⟩ | ⟨ds,rest,e5,e6,e7⟩
     ·rw [Cf.szs_nil]; exact Nat.zero_le _
     ·have:=bulk_slice ds l e6 e7
      rw [e5,Rows.uptoBulk]; omega) hx
  refine ⟨.mk k m l,by rw [Cf.c_mk]; exact h1,?_⟩
  rw [h2,Cf.sz_mk,Rows.uptoBulk,Rows.uptoBulkAll,Rows.uptoBulkAll,Rows.uptoBulkAll,Rows.uptoBulkAll]
  omega
end Go.Proofs.YtbmedfjmccnclaaGreat.W
set_option maxRecDepth 100000
namespace Go.Proofs.YtbmedfjmccnclaaGreat.W
open Go Go.Proofs Go.Proofs.YtbmedfjmccnclaaGreat.AWP Go.Proofs.YtbmedfjmccnclaaGreat
open Int renaming reduceEq→iEq,reduceLE→iLE,reduceLT→iLT,reduceToNat→iTN
open List renaming length_map→lMp
open Go.ChangeShapes Go.WideShapes Go.ChangeAt Go.RowKit
theorem cDefc:Tryz.prog.cellsOf 43=4:=by kernel_rfl
theorem cStrsc:Tryz.prog.cellsOf 22=1:=by kernel_rfl
theorem cDefsc:Tryz.prog.cellsOf 23=1:=by kernel_rfl
theorem cGrc:Tryz.prog.cellsOf 25=2:=by kernel_rfl
theorem dfTy:∃ f0 f1:Field,Tryz.prog.underlying 43=some (.struct #[f0,f1])∧(f0.type=9∧f0.offset=0)∧(f1.type=28∧f1.offset=1):=
 ⟨_,_,Tryz.underlying43,⟨rfl,rfl⟩,⟨rfl,rfl⟩⟩
theorem grTy:∃ f0 f1:Field,Tryz.prog.underlying 25=some (.struct #[f0,f1])∧(f0.type=22∧f0.offset=0)∧(f1.type=23∧f1.offset=1):=
 ⟨_,_,Tryz.underlying25,⟨rfl,rfl⟩,⟨rfl,rfl⟩⟩
theorem bulk_mem {H:Type}:∀ {ds:List (DataW H)} {d:DataW H},d∈ds→Rows.uptoBulk d≤Rows.uptoBulkAll ds
 | e :: ds,d,h=>by
  rw [Rows.uptoBulkAll]
  rcases List.mem_cons.1 h with rfl | h
  ·omega
  ·have:=bulk_mem h; omega
section
variable {H:Type} {enc:TypeId × Value→H} {W:World} {sp:Nat→Bool} {hd:Bool}
theorem df_read {n:Nat} {cs:List Value} {x:DataW H × List MemPlace} (hx:DataW.trod enc Tryz.prog W 0 sp hd n 43 cs=some x):∃ r:Df,CellsL (envAt W) cs (dfC r)∧r.2.sz≤Rows.uptoBulk x.1:=by
 obtain ⟨s,r,d,d',h1,h2,_,h4⟩:=struct2_read (c:=fun s:ByteArray=>[D.s s]) (c':=Cf.c) (k0:=1) (k1:=3) dfTy cStrc cCfc cDefc (fun _ _=>True) (fun r d=>r.sz≤Rows.uptoBulk d)
  (fun m hm cs x hx=>by obtain ⟨s,h,_⟩:=str_read Tryz.underlying9 hx; exact ⟨s,h,trivial⟩)
  (fun m hm cs x hx=>cf_readB m cs x hx) hx
 refine ⟨(s,r),h1,?_⟩
 rw [h2,Rows.uptoBulk,Rows.uptoBulkAll,Rows.uptoBulkAll,Rows.uptoBulkAll]
 dsimp only
 omega
theorem gr_read {n:Nat} {cs:List Value} {x:DataW H × List MemPlace} (hx:DataW.trod enc Tryz.prog W 0 sp hd n 25 cs=some x):∃ g:Gr,CellsL (envAt W) cs g.c∧∀ y∈g.defs,y.2.sz≤Rows.uptoBulk x.1:=by
 obtain ⟨ks,dl,d,d',h1,h2,_,h4⟩:=struct2_read (c:=fun l:List ByteArray=>[Strs l]) (c':=fun l:List Df=>[Defs l]) (k0:=1) (k1:=1) grTy cStrsc cDefsc cGrc (fun _ _=>True) (fun l d=>∀ y∈l,y.2.sz≤Rows.uptoBulk d)
  (fun m hm cs x hx=>by
   obtain ⟨l,y,e1,e2,e3,_⟩:=slice_read (c:=fun s:ByteArray=>[D.s s]) (sz:=1) Tryz.underlying22 cStrc (by decide) (fun _=>rfl) (fun _ _=>True) (fun m hm cs x hx=>by
    obtain ⟨s,h,_⟩:=str_read Tryz.underlying9 hx; exact ⟨s,h,trivial⟩) hx
   exact ⟨l,by rw [e1]; exact CellsL.one e2 e3,trivial⟩)
  (fun m hm cs x hx=>by
   obtain ⟨l,y,e1,e2,e3,e4⟩:=slice_read (c:=dfC) (sz:=4) Tryz.underlying23 cDefc (by decide) df_len (fun r d=>r.2.sz≤Rows.uptoBulk d) (fun m' hm' cs x hx=>df_read hx) hx
   refine ⟨l,by rw [e1]; exact CellsL.one e2 e3,fun z hz=>?_⟩
   rcases e4 with ⟨rfl,_⟩ | ⟨ds,rest,e5,e6,e7⟩
   ·cases hz
   ·obtain ⟨j,hj⟩:=List.getElem?_of_mem hz
    have hjl:j<ds.length:=by rw [e6]; exact (List.getElem?_eq_some_iff.1 hj).1
    have h8:=e7 j z _ hj (List.getElem?_eq_getElem hjl)
    have h9:=bulk_mem (List.getElem_mem hjl)
    rw [e5,Rows.uptoBulk]; omega) hx
 refine ⟨⟨ks,dl⟩,h1,fun y hy=>?_⟩
 have:=h4 y hy
 rw [h2,Rows.uptoBulk,Rows.uptoBulkAll,Rows.uptoBulkAll,Rows.uptoBulkAll]
 omega
theorem cf_argB {v:Value} {d:DataW H} {p:List MemPlace} (h:DataW.Trod enc Tryz.prog W 0 sp hd 28 v d p):∃ r:Cf,Rd (envAt W) (.agg r.c) v∧r.sz≤Rows.uptoBulk d:=by
 obtain ⟨n,hn⟩:=h
 obtain ⟨r,h1,h2⟩:=cf_readB n _ _ hn
 exact ⟨r,agg_arg (agg_of h1 (by simp)) h1,h2⟩
end
section
variable {H:Type} {enc:TypeId × Value→H} {W:World} {sp:Nat→Bool} {hd:Bool}
theorem gr_argB {v:Value} {d:DataW H} {p:List MemPlace} (h:DataW.Trod enc Tryz.prog W 0 sp hd 25 v d p):∃ g:Gr,Rd (envAt W) (.agg g.c) v∧∀ y∈g.defs,y.2.sz≤Rows.uptoBulk d:=by
 obtain ⟨n,hn⟩:=h
 obtain ⟨g,h1,h2⟩:=gr_read hn
 exact ⟨g,agg_arg (agg_of h1 (by simp)) h1,h2⟩
end
end Go.Proofs.YtbmedfjmccnclaaGreat.W
set_option maxRecDepth 100000
namespace Go.Proofs.YtbmedfjmccnclaaGreat.W
open Go Go.Proofs Go.Proofs.YtbmedfjmccnclaaGreat.AWP
open Int renaming reduceEq→iEq,reduceLE→iLE,reduceLT→iLT,reduceToNat→iTN
open List renaming length_map→lMp
open _root_.Int renaming reduceBEq → za
open _root_.List renaming map_cons → zb, map_nil → zc
attribute [local irreducible] xl hide aop aops aopQ qops guardP condP
abbrev boR (l:List Bool):List (List D):=l.map fun b=>[.b b]
abbrev Bs (l:List Bool):D:=.sl 1 (boR l)
theorem boR_bl (l:List Bool):∀ r∈boR l,∀ d∈r,Bl 0 d:=by
 intro r hr d hd
 obtain ⟨s,_,rfl⟩:=List.mem_map.1 hr
 rw [List.mem_singleton.1 hd]
 exact .v _
theorem Bs_bl (l:List Bool):Bl 0 (Bs l):=.sl (boR_bl l)
abbrev bwR (l:List (List Bool)):List (List D):=l.map fun x=>[Bs x]
abbrev Rws (l:List (List Bool)):D:=.sl 1 (bwR l)
theorem bwR_bl (l:List (List Bool)):∀ r∈bwR l,∀ d∈r,Bl 0 d:=by
 intro r hr d hd
 obtain ⟨s,_,rfl⟩:=List.mem_map.1 hr
 rw [List.mem_singleton.1 hd]
 exact Bs_bl s
theorem Rws_bl (l:List (List Bool)):Bl 0 (Rws l):=.sl (bwR_bl l)
abbrev fcD (P N:List Bool) (F S:D):List D:=[Bs P,Bs N,F,S]
theorem fcD_bl (P N:List Bool) {F S:D} (hF:Bl 0 F) (hS:Bl 0 S):∀ d∈fcD P N F S,Bl 0 d:=by
 intro d hd
 simp only [List.mem_cons,List.not_mem_nil,or_false] at hd
 rcases hd with rfl | rfl | rfl | rfl
 ·exact Bs_bl _
 ·exact Bs_bl _
 ·exact hF
 ·exact hS
theorem fcP_bl (P N:List Bool) {F S:D} (hF:Bl 0 F) (hS:Bl 0 S):Bl 0 (.pel (fcD P N F S)):=.pel (fcD_bl P N hF hS)
theorem bo_get {l:List Bool} {i:Nat} {b:Bool} (h:l[i]? = some b):(boR l)[i]? = some [.b b]:=by rw [List.getElem?_map,h]; rfl
theorem bw_get {l:List (List Bool)} {i:Nat} {b:List Bool} (h:l[i]? = some b):(bwR l)[i]? = some [Bs b]:=by rw [List.getElem?_map,h]; rfl
theorem getD_of {l:List Bool} {i:Nat} {b:Bool} (h:l[i]? = some b):l.getD i false=b:=by rw [List.getD_eq_getElem?_getD,h]; rfl
theorem cf2_0 (x y:Cf):([x,y].map Cf.c)[0]? = some x.c:=rfl
theorem cf2_1 (x y:Cf):([x,y].map Cf.c)[1]? = some y.c:=rfl
theorem live_1 (null:Bool) (k:List Bool):(Cf.mk 1 0 []).live null k=false:=by rw [Cf.live_mk]; rfl
theorem live_2 (null:Bool) (k:List Bool):(Cf.mk 2 0 []).live null k=true:=by rw [Cf.live_mk]; rfl
theorem live_3 (null:Bool) (k:List Bool) (n:Int):(Cf.mk 3 n []).live null k = !null:=by rw [Cf.live_mk]; rfl
theorem live_6 (null:Bool) (k:List Bool) (n:Nat):(Cf.mk 6 n []).live null k=k.getD n false:=by rw [Cf.live_mk]; rfl
theorem live_4 (null:Bool) (k:List Bool) (x y:Cf):(Cf.mk 4 0 [x,y]).live null k=(x.live null k && y.live null k):=by rw [Cf.live_mk]; rfl
theorem live_5 (null:Bool) (k:List Bool) (x y:Cf):(Cf.mk 5 0 [x,y]).live null k=(x.live null k || y.live null k):=by rw [Cf.live_mk]; rfl
set_option maxHeartbeats 2000000 in
theorem cProd {K:Nat} {P:List Bool} (N:List Bool) {F S:D} (hF:Bl 0 F) (hS:Bl 0 S):∀ r:Cf,r.may K P.length=true→AP Tryz.prog 56 [.pel (fcD P N F S),.agg r.c] (.b (r.live false P)):=by
 have hq:=fcP_bl P N hF hS
 refine may_cases ?_ ?_ ?_ ?_ ?_ ?_
 ·rw [live_1]
  refine AC.lbody hT hm Tryz.func56 f56_nm f56_lc f56_res f56_nt ?_
  simp only [go_sem,iEq,iLE,iLT,iTN,za,Cf.c_mk,Cf.cs_eq]
  exact Fin.v rfl
 ·rw [live_2]
  refine AC.lbody hT hm Tryz.func56 f56_nm f56_lc f56_res f56_nt ?_
  simp only [go_sem,iEq,iLE,iLT,iTN,za,Cf.c_mk,Cf.cs_eq]
  exact Fin.v rfl
 ·intro n hn
  rw [live_3]
  refine AC.lbody hT hm Tryz.func56 f56_nm f56_lc f56_res f56_nt ?_
  simp only [go_sem,iEq,iLE,iLT,iTN,za,Cf.c_mk,Cf.cs_eq]
  exact Fin.v rfl
 ·intro n hn
  obtain ⟨b,hb⟩:=get_ex hn
  rw [live_6,getD_of hb]
  refine AC.lbody hT hm Tryz.func56 f56_nm f56_lc f56_res f56_nt ?_
  simp only [go_sem,iEq,iLE,iLT,iTN,za,Cf.c_mk,Cf.cs_eq,lMp,hn,hb]
  exact Fin.v rfl
 ·intro x y _ _ hx hy
  rw [live_4]
  refine AC.lbody hT hm Tryz.func56 f56_nm f56_lc f56_res f56_nt ?_
  simp only [go_sem,iEq,iLE,iLT,iTN,za,Cf.c_mk,Cf.cs_eq,zb,zc,Cf.c_take]
  refine hx.pv ⟨.same hq,.same (Cf.d_bl x),trivial⟩ ?_
  cases x.live false P with
  | false=>
   simp only [go_sem,iEq,iLE,iLT,iTN,za]
   exact Fin.v rfl
  | true=>
   simp only [go_sem,iEq,iLE,iLT,iTN,za,Cf.c_mk,Cf.cs_eq,zb,zc,Cf.c_take]
   refine hy.pv ⟨.same hq,.same (Cf.d_bl y),trivial⟩ ?_
   simp only [go_sem,iEq,iLE,iLT,iTN,za]
   exact Fin.v (by simp)
 ·intro x y _ _ hx hy
  rw [live_5]
  refine AC.lbody hT hm Tryz.func56 f56_nm f56_lc f56_res f56_nt ?_
  simp only [go_sem,iEq,iLE,iLT,iTN,za,Cf.c_mk,Cf.cs_eq,zb,zc,Cf.c_take]
  refine hx.pv ⟨.same hq,.same (Cf.d_bl x),trivial⟩ ?_
  cases x.live false P with
  | true=>
   simp only [go_sem,iEq,iLE,iLT,iTN,za]
   exact Fin.v rfl
  | false=>
   simp only [go_sem,iEq,iLE,iLT,iTN,za,Cf.c_mk,Cf.cs_eq,zb,zc,Cf.c_take]
   refine hy.pv ⟨.same hq,.same (Cf.d_bl y),trivial⟩ ?_
   simp only [go_sem,iEq,iLE,iLT,iTN,za]
   exact Fin.v (by simp)
set_option maxHeartbeats 2000000 in
theorem cNull {K:Nat} {N:List Bool} (P:List Bool) {F S:D} (hF:Bl 0 F) (hS:Bl 0 S):∀ r:Cf,r.may K N.length=true→AP Tryz.prog 58 [.pel (fcD P N F S),.agg r.c] (.b (r.live true N)):=by
 have hq:=fcP_bl P N hF hS
 refine may_cases ?_ ?_ ?_ ?_ ?_ ?_
 ·rw [live_1]
  refine AC.lbody hT hm Tryz.func58 f58_nm f58_lc f58_res f58_nt ?_
  simp only [go_sem,iEq,iLE,iLT,iTN,za,Cf.c_mk,Cf.cs_eq]
  exact Fin.v rfl
 ·rw [live_2]
  refine AC.lbody hT hm Tryz.func58 f58_nm f58_lc f58_res f58_nt ?_
  simp only [go_sem,iEq,iLE,iLT,iTN,za,Cf.c_mk,Cf.cs_eq]
  exact Fin.v rfl
 ·intro n hn
  rw [live_3]
  refine AC.lbody hT hm Tryz.func58 f58_nm f58_lc f58_res f58_nt ?_
  simp only [go_sem,iEq,iLE,iLT,iTN,za,Cf.c_mk,Cf.cs_eq]
  exact Fin.v rfl
 ·intro n hn
  obtain ⟨b,hb⟩:=get_ex hn
  rw [live_6,getD_of hb]
  refine AC.lbody hT hm Tryz.func58 f58_nm f58_lc f58_res f58_nt ?_
  simp only [go_sem,iEq,iLE,iLT,iTN,za,Cf.c_mk,Cf.cs_eq,lMp,hn,hb]
  exact Fin.v rfl
 ·intro x y _ _ hx hy
  rw [live_4]
  refine AC.lbody hT hm Tryz.func58 f58_nm f58_lc f58_res f58_nt ?_
  simp only [go_sem,iEq,iLE,iLT,iTN,za,Cf.c_mk,Cf.cs_eq,zb,zc,Cf.c_take]
  refine hx.pv ⟨.same hq,.same (Cf.d_bl x),trivial⟩ ?_
  cases x.live true N with
  | false=>
   simp only [go_sem,iEq,iLE,iLT,iTN,za]
   exact Fin.v rfl
  | true=>
   simp only [go_sem,iEq,iLE,iLT,iTN,za,Cf.c_mk,Cf.cs_eq,zb,zc,Cf.c_take]
   refine hy.pv ⟨.same hq,.same (Cf.d_bl y),trivial⟩ ?_
   simp only [go_sem,iEq,iLE,iLT,iTN,za]
   exact Fin.v (by simp)
 ·intro x y _ _ hx hy
  rw [live_5]
  refine AC.lbody hT hm Tryz.func58 f58_nm f58_lc f58_res f58_nt ?_
  simp only [go_sem,iEq,iLE,iLT,iTN,za,Cf.c_mk,Cf.cs_eq,zb,zc,Cf.c_take]
  refine hx.pv ⟨.same hq,.same (Cf.d_bl x),trivial⟩ ?_
  cases x.live true N with
  | true=>
   simp only [go_sem,iEq,iLE,iLT,iTN,za]
   exact Fin.v rfl
  | false=>
   simp only [go_sem,iEq,iLE,iLT,iTN,za,Cf.c_mk,Cf.cs_eq,zb,zc,Cf.c_take]
   refine hy.pv ⟨.same hq,.same (Cf.d_bl y),trivial⟩ ?_
   simp only [go_sem,iEq,iLE,iLT,iTN,za]
   exact Fin.v (by simp)
end Go.Proofs.YtbmedfjmccnclaaGreat.W
set_option maxRecDepth 100000
namespace Go.Proofs.YtbmedfjmccnclaaGreat.W
open Go Go.Proofs Go.Proofs.YtbmedfjmccnclaaGreat.AWP
open Int renaming reduceEq→iEq,reduceLE→iLE,reduceLT→iLT,reduceToNat→iTN
open List renaming length_map→lMp
open _root_.List renaming take_succ_cons → za, take_zero → zb
attribute [local irreducible] xl hide aop aops aopQ qops guardP condP
abbrev bOb (l:List Bool):Ob:=.slc 4 1 (boR l)
theorem orR_take {k l:List Bool} {i:Nat} {x y:Bool} (hk:k[i]? = some x) (hl:l[i]? = some y):orR k (l.take (i+1))=(orR k (l.take i)).set i (x || y):=by
 induction i generalizing k l with
 | zero=>
  cases k with
  | nil=>simp at hk
  | cons a k=>
   cases l with
   | nil=>simp at hl
   | cons b l=>
    simp only [List.getElem?_cons_zero,Option.some.injEq] at hk hl
    subst hk; subst hl
    rw [za,zb,zb,orR]
    cases k <;> rfl
 | succ i ih=>
  cases k with
  | nil=>simp at hk
  | cons a k=>
   cases l with
   | nil=>simp at hl
   | cons b l=>
    rw [za,za,orR,orR,List.set_cons_succ,ih (by simpa using hk) (by simpa using hl)]
theorem orR_at {k l:List Bool} {i:Nat} {x:Bool} (hk:k[i]? = some x):(orR k (l.take i))[i]? = some x:=by
 induction i generalizing k l with
 | zero=>
  cases k with
  | nil=>simp at hk
  | cons a k=>rw [zb]; exact hk
 | succ i ih=>
  cases k with
  | nil=>simp at hk
  | cons a k=>
   cases l with
   | nil=>exact hk
   | cons b l=>
    rw [za,orR,List.getElem?_cons_succ]
    exact ih (by simpa using hk)
theorem orR_set {k l:List Bool} {i:Nat} {x y:Bool} (hk:k[i]? = some x) (hl:l[i]? = some y):(orR k (l.take i)).set i (x || y)=orR k (l.take (i+1)):=(orR_take hk hl).symm
theorem orR_nw {k l:List Bool} {i:Nat} {x y:Bool} (hk:k[i]? = some x) (hl:l[i]? = some y):decide (orR k (l.take (i+1))≠k)=(decide (orR k (l.take i)≠k) || (y && !x)):=by
 have hat:=orR_at (l:=l) hk
 by_cases h:(y && !x)=true
 ·have:orR k (l.take (i+1))≠k:=by
   intro he
   have h1:=hk
   rw [← he,orR_take hk hl,List.getElem?_set_self (List.getElem?_eq_some_iff.1 hat).1] at h1
   cases x <;> cases y <;> simp at h h1
  rw [h,Bool.or_true]
  exact decide_eq_true this
 ·have hx:(x || y)=x:=by cases x <;> cases y <;> simp at h ⊢
  have hs:(orR k (l.take i)).set i x=orR k (l.take i):=by
   apply List.ext_getElem?
   intro j
   by_cases hj:i=j
   ·subst hj
    rw [List.getElem?_set_self (List.getElem?_eq_some_iff.1 hat).1,hat]
   ·rw [List.getElem?_set_ne hj]
  have hn:(y && !x)=false:=by simpa using h
  rw [orR_take hk hl,hx,hs,hn,Bool.or_false]
theorem boR_set (l:List Bool) (i:Nat) (b:Bool):(boR l).set i [.v (.bool b)]=boR (l.set i b):=List.map_set.symm
set_option maxHeartbeats 4000000 in
theorem joinK (k l:List Bool) (hl:l.length≤k.length) (hk:k.length≤1000000):AC Tryz.prog 81 [.own 0,Bs l] [bOb k] (fun o om=>o=.ret (.b (decide (orR k l≠k)))∧om=[bOb (orR k l)]):=by
 have hq:∀ om (F:Nat→Bool) (kk:List (Option Nat)),Cv om F kk (Bs l) (Bs l):=fun om F kk=>.same (Bs_bl l)
 refine AC.lbody hT hm Tryz.func81 f81_nm f81_lc f81_res f81_nt ?_
 simp only [go_sem,iEq,iLE,iLT,iTN,lMp]
 refine xl_loopM hT hm (fun i:Nat=>⟨f81_i8 (.own 0) (.b (decide (orR k (l.take i)≠k))) (Bs l) (.i l.length) (.i i),[bOb (orR k (l.take i))]⟩)
  (fun i=>i≤l.length) (fun i=>l.length - i) 0 (Nat.zero_le _) ?_ ?_
 ·have e0:orR k (l.take 0)=k:=by rw [zb]; cases k <;> rfl
  rw [e0]
  refine Mv.of [some 0] rfl ⟨.slcS rfl (boR_bl k),trivial⟩ ?_
  simp [f81_i8,hq]
 intro i hi
 simp only [go_sem,iEq,iLE,iLT,iTN,lMp]
 by_cases hiq:i<l.length
 case neg=>
  have t2:l.take i=l:=List.take_of_length_le (by omega)
  simp only [go_sem,iEq,iLE,iLT,iTN,hiq,t2]
  exact Fin.mv (om':=[bOb (orR k l)]) [some 0] rfl ⟨.slcS rfl (boR_bl _),trivial⟩ .v ⟨rfl,rfl⟩
 obtain ⟨x,hx⟩:=get_ex (l:=k) (show i<k.length by omega)
 obtain ⟨y,hy⟩:=get_ex hiq
 have ho:=orR_set hx hy
 have hn:=orR_nw hx hy
 have hcur:=orR_at (l:=l) hx
 have hlen:(orR k (l.take i)).length=k.length:=orR_len _ _
 generalize orR k (l.take i)=o at ho hn hcur hlen ⊢
 generalize decide (o≠k)=nn at hn ⊢
 have hg:=bo_get hcur
 have hgq:=bo_get hy
 have hil:i<o.length:=(List.getElem?_eq_some_iff.1 hcur).1
 have hw:=wrap_succ i (by omega)
 cases nn <;> cases y <;> cases x
 all_goals
  simp only [go_sem,iEq,iLE,iLT,iTN,hiq,hg,hgq,lMp,hil,boR_set,Nat.div_one,Nat.mod_one,Bool.not_true,Bool.not_false,hw]
  refine ⟨i+1,by omega,by omega,?_⟩
  simp only [Bool.or_true,Bool.or_false,Bool.true_or,Bool.false_or,Bool.not_true,Bool.not_false,Bool.and_true,Bool.and_false,Bool.true_and,Bool.false_and] at ho hn
  rw [← ho] at hn ⊢
  rw [hn]
  exact Mv.of [some 0] rfl ⟨.slcS (by simp) (boR_bl _),trivial⟩ (by simp [f81_i8,hq])
theorem joinS (k l:List Bool) (hl:l.length≤k.length) (hk:k.length≤1000000) (fr bk:List Ob):AC Tryz.prog 81 [.own fr.length,Bs l] (fr++[bOb k]++bk) (fun o om=>∃ om',(o=.ret (.b (decide (orR k l≠k)))∧om'=[bOb (orR k l)])∧om=fr++om'++bk):=by
 refine (joinK k l hl hk).shiftO rfl ?_ ?_ ?_ ?_ ?_
 ·intro j d d' h1 h2
  match j with
  | 0=>cases h1; cases h2; exact .inr (.inr ⟨0,rfl,rfl⟩)
  | 1=>cases h1; cases h2; exact .inl ⟨Bs_bl l,rfl⟩
  | j+2=>cases h1
 ·intro j k off h
  match j with
  | 0=>cases h
  | 1=>cases h
  | j+2=>cases h
 ·intro j k h
  match j with
  | 0=>cases h; exact Nat.zero_lt_one
  | 1=>cases h
  | j+2=>cases h
 ·intro o ho
  rw [List.mem_singleton.1 ho]
  exact boR_bl k
 ·rintro o om' ⟨rfl,rfl⟩
  refine ⟨rfl,.v _,fun x hx=>?_⟩
  rw [List.mem_singleton.1 hx]
  exact boR_bl _
end Go.Proofs.YtbmedfjmccnclaaGreat.W
set_option maxRecDepth 100000
namespace Go.Proofs.YtbmedfjmccnclaaGreat.W
open Go Go.Proofs Go.Proofs.YtbmedfjmccnclaaGreat.AWP
open Int renaming reduceEq→iEq,reduceLE→iLE,reduceLT→iLT,reduceToNat→iTN
open List renaming length_map→lMp
open _root_.Int renaming reduceBEq → za
open _root_.List renaming length_cons → zb, map_cons → zc, map_nil → zd
attribute [local irreducible] xl hide aop aops aopQ qops guardP condP
theorem boR_rep (n:Nat):List.replicate n [D.v (.bool false)]=boR (zR n):=by simp [boR,zR]
def FsOk (n:Nat) (F:List (List Bool)):Prop:=∀ x∈F,x.length=n
section
variable {P N:List Bool} {F:List (List Bool)} {n:Nat}
theorem fst_1:(Cf.mk 1 0 []).fst P N n F=zR n:=by rw [Cf.fst_mk]; rfl
theorem fst_2:(Cf.mk 2 0 []).fst P N n F=zR n:=by rw [Cf.fst_mk]; rfl
theorem fst_3 (k:Nat):(Cf.mk 3 k []).fst P N n F=(zR n).set k true:=by rw [Cf.fst_mk]; rfl
theorem fst_6 (k:Nat):(Cf.mk 6 k []).fst P N n F=orR (zR n) (F.getD k []):=by rw [Cf.fst_mk]; rfl
theorem fst_4 (x y:Cf):(Cf.mk 4 0 [x,y]).fst P N n F=(if x.live true N=true then orR (if y.live false P=true then orR (zR n) (x.fst P N n F) else zR n) (y.fst P N n F) else if y.live false P=true then orR (zR n) (x.fst P N n F) else zR n):=by rw [Cf.fst_mk]; rfl
theorem fst_5 (x y:Cf):(Cf.mk 5 0 [x,y]).fst P N n F=orR (orR (zR n) (x.fst P N n F)) (y.fst P N n F):=by rw [Cf.fst_mk]; rfl
end
theorem frzB {f:FuncId} {ds:List D} {l:List Bool} (h:AC Tryz.prog f ds [] (newR (bOb l))):AP Tryz.prog f ds (Bs l):=
 h.post fun o om' h=>by obtain ⟨rfl,rfl⟩:=h; exact Fin.ret (.frzS rfl rfl (boR_bl _))
set_option maxHeartbeats 4000000 in
theorem cFirstO {P N:List Bool} {F:List (List Bool)} {S:D} (hSb:Bl 0 S) {n:Nat} (hn:n≤1000000) (hP:P.length=F.length) (hN:N.length=F.length) (hF:FsOk n F):∀ r:Cf,r.may n F.length=true→AC Tryz.prog 50 [.pel (fcD P N (Rws F) S),.agg r.c,.i n] [] (newR (bOb (r.fst P N n F))):=by
 have hq:=fcP_bl P N (Rws_bl F) hSb
 have hb:(n:Int)≤281474976710656:=by omega
 have hz:(zR n).length=n:=by simp [zR]
 refine may_cases ?_ ?_ ?_ ?_ ?_ ?_
 ·rw [fst_1]
  refine AC.lbody hT hm Tryz.func50 f50_nm f50_lc f50_res f50_nt ?_
  simp only [go_sem,iEq,iLE,iLT,iTN,za,Cf.c_mk,Cf.cs_eq,hb]
  refine ⟨by omega,by omega,?_⟩
  rw [boR_rep]
  exact fun E0 E e _ hx hR ho=>⟨E,_,_,⟨rfl,rfl⟩,rfl,hx,hR,ho⟩
 ·rw [fst_2]
  refine AC.lbody hT hm Tryz.func50 f50_nm f50_lc f50_res f50_nt ?_
  simp only [go_sem,iEq,iLE,iLT,iTN,za,Cf.c_mk,Cf.cs_eq,hb]
  refine ⟨by omega,by omega,?_⟩
  rw [boR_rep]
  exact fun E0 E e _ hx hR ho=>⟨E,_,_,⟨rfl,rfl⟩,rfl,hx,hR,ho⟩
 ·intro k hk
  rw [fst_3]
  refine AC.lbody hT hm Tryz.func50 f50_nm f50_lc f50_res f50_nt ?_
  simp only [go_sem,iEq,iLE,iLT,iTN,za,Cf.c_mk,Cf.cs_eq,hb]
  refine ⟨by omega,by omega,?_⟩
  rw [boR_rep]
  have hg:=bo_get (show (zR n)[k]? = some false by simp [zR,hk])
  simp only [go_sem,iEq,iLE,iLT,iTN,lMp,hz,hk,hg,boR_set,Nat.div_one,Nat.mod_one]
  exact fun E0 E e _ hx hR ho=>⟨E,_,_,⟨rfl,rfl⟩,rfl,hx,hR,ho⟩
 ·intro k hk
  rw [fst_6]
  obtain ⟨x,hx⟩:=get_ex hk
  have hg:=bw_get hx
  have hxl:x.length=n:=hF x (List.mem_of_getElem? hx)
  have j1:=joinK (zR n) x (by omega) (by omega)
  rw [show F.getD k []=x by rw [List.getD_eq_getElem?_getD,hx]; rfl]
  refine AC.lbody hT hm Tryz.func50 f50_nm f50_lc f50_res f50_nt ?_
  simp only [go_sem,iEq,iLE,iLT,iTN,za,Cf.c_mk,Cf.cs_eq,hb]
  refine ⟨by omega,by omega,?_⟩
  rw [boR_rep]
  simp only [go_sem,iEq,iLE,iLT,iTN,lMp,hk,hx,Option.map_some,List.getElem?_map,Nat.div_one,Nat.mod_one]
  refine ⟨_,j1,?_⟩
  rintro _ _ ⟨rfl,rfl⟩
  simp only [go_sem,iEq,iLE,iLT,iTN,lMp]
  exact fun E0 E e _ hx hR ho=>⟨E,_,_,⟨rfl,rfl⟩,rfl,hx,hR,ho⟩
 ·intro x y hxm hym hx hy
  replace hx:=frzB hx
  replace hy:=frzB hy
  rw [fst_4]
  have hxl:=fst_len P N n F x
  have hyl:=fst_len P N n F y
  have px:=cNull (K:=n) (N:=N) P (Rws_bl F) hSb x (by rw [hN]; exact hxm)
  have py:=cProd (K:=n) (P:=P) N (Rws_bl F) hSb y (by rw [hP]; exact hym)
  have j1:=joinK (zR n) (x.fst P N n F) (by omega) (by omega)
  have j2:=joinK (orR (zR n) (x.fst P N n F)) (y.fst P N n F) (by rw [orR_len]; omega) (by rw [orR_len]; omega)
  have j3:=joinK (zR n) (y.fst P N n F) (by omega) (by omega)
  refine AC.lbody hT hm Tryz.func50 f50_nm f50_lc f50_res f50_nt ?_
  simp only [go_sem,iEq,iLE,iLT,iTN,za,Cf.c_mk,Cf.cs_eq,hb]
  refine ⟨by omega,by omega,?_⟩
  rw [boR_rep]
  try simp only [go_sem,iEq,iLE,iLT,iTN,za,Cf.c_mk,Cf.cs_eq,zc,zd,cf2_0,cf2_1,zb]
  refine py.pv ⟨.same hq,.same (Cf.d_bl y),trivial⟩ ?_
  cases hpy:y.live false P <;> cases hnx:x.live true N
  ·simp only [go_sem,iEq,iLE,iLT,iTN,za,Cf.c_mk,Cf.cs_eq,zc,zd,cf2_0,cf2_1,zb,lMp]
   rw [hnx] at px
   refine px.pv ⟨.same hq,.same (Cf.d_bl x),trivial⟩ ?_
   simp only [go_sem,iEq,iLE,iLT,iTN,za,Cf.c_mk,Cf.cs_eq,zc,zd,cf2_0,cf2_1,zb,lMp]
   exact fun E0 E e _ hx hR ho=>⟨E,_,_,⟨rfl,rfl⟩,rfl,hx,hR,ho⟩
  ·simp only [go_sem,iEq,iLE,iLT,iTN,za,Cf.c_mk,Cf.cs_eq,zc,zd,cf2_0,cf2_1,zb,lMp]
   rw [hnx] at px
   refine px.pv ⟨.same hq,.same (Cf.d_bl x),trivial⟩ ?_
   simp only [go_sem,iEq,iLE,iLT,iTN,za,Cf.c_mk,Cf.cs_eq,zc,zd,cf2_0,cf2_1,zb,lMp]
   refine hy.pd ⟨.same hq,.same (Cf.d_bl y),.v,trivial⟩ (Bs_bl _) ?_
   simp only [go_sem,iEq,iLE,iLT,iTN,za,Cf.c_mk,Cf.cs_eq,zc,zd,cf2_0,cf2_1,zb,lMp]
   refine ⟨_,j3,?_⟩
   rintro _ _ ⟨rfl,rfl⟩
   simp only [go_sem,iEq,iLE,iLT,iTN,za,Cf.c_mk,Cf.cs_eq,zc,zd,cf2_0,cf2_1,zb,lMp]
   exact fun E0 E e _ hx hR ho=>⟨E,_,_,⟨rfl,rfl⟩,rfl,hx,hR,ho⟩
  ·simp only [go_sem,iEq,iLE,iLT,iTN,za,Cf.c_mk,Cf.cs_eq,zc,zd,cf2_0,cf2_1,zb,lMp]
   refine hx.pd ⟨.same hq,.same (Cf.d_bl x),.v,trivial⟩ (Bs_bl _) ?_
   simp only [go_sem,iEq,iLE,iLT,iTN,za,Cf.c_mk,Cf.cs_eq,zc,zd,cf2_0,cf2_1,zb,lMp]
   refine ⟨_,j1,?_⟩
   rintro _ _ ⟨rfl,rfl⟩
   simp only [go_sem,iEq,iLE,iLT,iTN,za,Cf.c_mk,Cf.cs_eq,zc,zd,cf2_0,cf2_1,zb,lMp]
   rw [hnx] at px
   refine px.pv ⟨.same hq,.same (Cf.d_bl x),trivial⟩ ?_
   simp only [go_sem,iEq,iLE,iLT,iTN,za,Cf.c_mk,Cf.cs_eq,zc,zd,cf2_0,cf2_1,zb,lMp]
   exact fun E0 E e _ hx hR ho=>⟨E,_,_,⟨rfl,rfl⟩,rfl,hx,hR,ho⟩
  ·simp only [go_sem,iEq,iLE,iLT,iTN,za,Cf.c_mk,Cf.cs_eq,zc,zd,cf2_0,cf2_1,zb,lMp]
   refine hx.pd ⟨.same hq,.same (Cf.d_bl x),.v,trivial⟩ (Bs_bl _) ?_
   simp only [go_sem,iEq,iLE,iLT,iTN,za,Cf.c_mk,Cf.cs_eq,zc,zd,cf2_0,cf2_1,zb,lMp]
   refine ⟨_,j1,?_⟩
   rintro _ _ ⟨rfl,rfl⟩
   simp only [go_sem,iEq,iLE,iLT,iTN,za,Cf.c_mk,Cf.cs_eq,zc,zd,cf2_0,cf2_1,zb,lMp]
   rw [hnx] at px
   refine px.pv ⟨.same hq,.same (Cf.d_bl x),trivial⟩ ?_
   simp only [go_sem,iEq,iLE,iLT,iTN,za,Cf.c_mk,Cf.cs_eq,zc,zd,cf2_0,cf2_1,zb,lMp]
   refine hy.pd ⟨.same hq,.same (Cf.d_bl y),.v,trivial⟩ (Bs_bl _) ?_
   simp only [go_sem,iEq,iLE,iLT,iTN,za,Cf.c_mk,Cf.cs_eq,zc,zd,cf2_0,cf2_1,zb,lMp]
   refine ⟨_,j2,?_⟩
   rintro _ _ ⟨rfl,rfl⟩
   simp only [go_sem,iEq,iLE,iLT,iTN,za,Cf.c_mk,Cf.cs_eq,zc,zd,cf2_0,cf2_1,zb,lMp]
   exact fun E0 E e _ hx hR ho=>⟨E,_,_,⟨rfl,rfl⟩,rfl,hx,hR,ho⟩
 ·intro x y hxm hym hx hy
  replace hx:=frzB hx
  replace hy:=frzB hy
  rw [fst_5]
  have hxl:=fst_len P N n F x
  have hyl:=fst_len P N n F y
  have j1:=joinK (zR n) (x.fst P N n F) (by omega) (by omega)
  have j2:=joinK (orR (zR n) (x.fst P N n F)) (y.fst P N n F) (by rw [orR_len]; omega) (by rw [orR_len]; omega)
  refine AC.lbody hT hm Tryz.func50 f50_nm f50_lc f50_res f50_nt ?_
  simp only [go_sem,iEq,iLE,iLT,iTN,za,Cf.c_mk,Cf.cs_eq,hb]
  refine ⟨by omega,by omega,?_⟩
  rw [boR_rep]
  try simp only [go_sem,iEq,iLE,iLT,iTN,za,Cf.c_mk,Cf.cs_eq,zc,zd,cf2_0,cf2_1,zb]
  refine hx.pd ⟨.same hq,.same (Cf.d_bl x),.v,trivial⟩ (Bs_bl _) ?_
  simp only [go_sem,iEq,iLE,iLT,iTN,za,Cf.c_mk,Cf.cs_eq,zc,zd,cf2_0,cf2_1,zb,lMp]
  refine ⟨_,j1,?_⟩
  rintro _ _ ⟨rfl,rfl⟩
  simp only [go_sem,iEq,iLE,iLT,iTN,za,Cf.c_mk,Cf.cs_eq,zc,zd,cf2_0,cf2_1,zb,lMp]
  refine hy.pd ⟨.same hq,.same (Cf.d_bl y),.v,trivial⟩ (Bs_bl _) ?_
  simp only [go_sem,iEq,iLE,iLT,iTN,za,Cf.c_mk,Cf.cs_eq,zc,zd,cf2_0,cf2_1,zb,lMp]
  refine ⟨_,j2,?_⟩
  rintro _ _ ⟨rfl,rfl⟩
  simp only [go_sem,iEq,iLE,iLT,iTN,za,Cf.c_mk,Cf.cs_eq,zc,zd,cf2_0,cf2_1,zb,lMp]
  exact fun E0 E e _ hx hR ho=>⟨E,_,_,⟨rfl,rfl⟩,rfl,hx,hR,ho⟩
theorem cFirst {P N:List Bool} {F:List (List Bool)} {S:D} (hSb:Bl 0 S) {n:Nat} (hn:n≤1000000) (hP:P.length=F.length) (hN:N.length=F.length) (hF:FsOk n F) (r:Cf) (hr:r.may n F.length=true):AP Tryz.prog 50 [.pel (fcD P N (Rws F) S),.agg r.c,.i n] (Bs (r.fst P N n F)):=frzB (cFirstO hSb hn hP hN hF r hr)
end Go.Proofs.YtbmedfjmccnclaaGreat.W
set_option maxRecDepth 100000
namespace Go.Proofs.YtbmedfjmccnclaaGreat.W
open Go Go.Proofs Go.Proofs.YtbmedfjmccnclaaGreat.AWP
open Int renaming reduceEq→iEq,reduceLE→iLE,reduceLT→iLT,reduceToNat→iTN
open List renaming length_map→lMp
open _root_.List renaming length_cons → za, map_cons → zc, map_nil → zd, getElem?_cons_succ → ze, getElem?_cons_zero → zf
open _root_.Int renaming reduceBEq → zb, reduceSub → zi
open _root_.Nat renaming reduceEqDiff → zg
open _root_.Option renaming map_some → zh
attribute [local irreducible] xl hide aop aops aopQ qops guardP condP
section
variable {P N:List Bool} {F S:List (List Bool)} {n:Nat}
theorem shn_1:(Cf.mk 1 0 []).shn P N n F S=zR n:=by rw [Cf.shn_mk]; rfl
theorem shn_2:(Cf.mk 2 0 []).shn P N n F S=zR n:=by rw [Cf.shn_mk]; rfl
theorem shn_3 (k:Nat):(Cf.mk 3 k []).shn P N n F S=zR n:=by rw [Cf.shn_mk]; rfl
theorem shn_6 (k:Nat):(Cf.mk 6 k []).shn P N n F S=orR (zR n) (S.getD k []):=by rw [Cf.shn_mk]; rfl
theorem shn_4 (x y:Cf):(Cf.mk 4 0 [x,y]).shn P N n F S=(if y.live true N=true then orR (if x.live false P=true then orR (zR n) (y.shn P N n F S) else zR n) (x.shn P N n F S) else if x.live false P=true then orR (zR n) (y.shn P N n F S) else zR n):=by rw [Cf.shn_mk]; rfl
theorem wz0:IntKind.i64.wrap 0=0:=by decide
theorem wz1:IntKind.i64.wrap 1=1:=by decide
theorem wz2:IntKind.i64.wrap 2=2:=by decide
theorem cz0:((0:Nat):Int)=0:=rfl
theorem cz1:((1:Nat):Int)=1:=rfl
theorem cz2:((2:Nat):Int)=2:=rfl
def shnOne (o s:List Bool) (nl:Bool) (f:List Bool):List Bool:=if nl=true then orR (orR o s) f else orR o s
theorem shnOne_len (o s:List Bool) (nl:Bool) (f:List Bool):(shnOne o s nl f).length=o.length:=by unfold shnOne; split <;> simp [orR_len]
theorem shn_5 (x y:Cf):(Cf.mk 5 0 [x,y]).shn P N n F S=shnOne (shnOne (zR n) (x.shn P N n F S) (x.live true N) (y.fst P N n F)) (y.shn P N n F S) (y.live true N) (x.fst P N n F):=by rw [Cf.shn_mk]; rfl
end
set_option maxHeartbeats 8000000 in
theorem cShunO {P N:List Bool} {F S:List (List Bool)} {n:Nat} (hn:n≤1000000) (hP:P.length=F.length) (hN:N.length=F.length) (hSl:S.length=F.length) (hF:FsOk n F) (hS:FsOk n S):∀ r:Cf,r.may n F.length=true→AC Tryz.prog 51 [.pel (fcD P N (Rws F) (Rws S)),.agg r.c,.i n] [] (newR (bOb (r.shn P N n F S))):=by
 have hq:=fcP_bl P N (Rws_bl F) (Rws_bl S)
 have hb:(n:Int)≤281474976710656:=by omega
 have hz:(zR n).length=n:=by simp [zR]
 refine may_cases ?_ ?_ ?_ ?_ ?_ ?_
 ·rw [shn_1]
  refine AC.lbody hT hm Tryz.func51 f51_nm f51_lc f51_res f51_nt ?_
  simp only [go_sem,iEq,iLE,iLT,iTN,zb,Cf.c_mk,Cf.cs_eq,hb]
  refine ⟨by omega,by omega,?_⟩
  rw [boR_rep]
  exact fun E0 E e _ hx hR ho=>⟨E,_,_,⟨rfl,rfl⟩,rfl,hx,hR,ho⟩
 ·rw [shn_2]
  refine AC.lbody hT hm Tryz.func51 f51_nm f51_lc f51_res f51_nt ?_
  simp only [go_sem,iEq,iLE,iLT,iTN,zb,Cf.c_mk,Cf.cs_eq,hb]
  refine ⟨by omega,by omega,?_⟩
  rw [boR_rep]
  exact fun E0 E e _ hx hR ho=>⟨E,_,_,⟨rfl,rfl⟩,rfl,hx,hR,ho⟩
 ·intro k hk
  rw [shn_3]
  refine AC.lbody hT hm Tryz.func51 f51_nm f51_lc f51_res f51_nt ?_
  simp only [go_sem,iEq,iLE,iLT,iTN,zb,Cf.c_mk,Cf.cs_eq,hb]
  refine ⟨by omega,by omega,?_⟩
  rw [boR_rep]
  exact fun E0 E e _ hx hR ho=>⟨E,_,_,⟨rfl,rfl⟩,rfl,hx,hR,ho⟩
 ·intro k hk
  rw [shn_6]
  have hk':k<S.length:=by omega
  obtain ⟨x,hx⟩:=get_ex hk'
  have hxl:x.length=n:=hS x (List.mem_of_getElem? hx)
  have j1:=joinK (zR n) x (by omega) (by omega)
  rw [show S.getD k []=x by rw [List.getD_eq_getElem?_getD,hx]; rfl]
  refine AC.lbody hT hm Tryz.func51 f51_nm f51_lc f51_res f51_nt ?_
  simp only [go_sem,iEq,iLE,iLT,iTN,zb,Cf.c_mk,Cf.cs_eq,hb]
  refine ⟨by omega,by omega,?_⟩
  rw [boR_rep]
  simp only [go_sem,iEq,iLE,iLT,iTN,lMp,hk',hx,zh,List.getElem?_map,Nat.div_one,Nat.mod_one]
  refine ⟨_,j1,?_⟩
  rintro _ _ ⟨rfl,rfl⟩
  simp only [go_sem,iEq,iLE,iLT,iTN,lMp]
  exact fun E0 E e _ hx hR ho=>⟨E,_,_,⟨rfl,rfl⟩,rfl,hx,hR,ho⟩
 ·intro x y hxm hym hx hy
  replace hx:=frzB hx
  replace hy:=frzB hy
  rw [shn_4]
  have hxl:=shn_len P N n F S x
  have hyl:=shn_len P N n F S y
  have py:=cProd (K:=n) (P:=P) N (Rws_bl F) (Rws_bl S) x (by rw [hP]; exact hxm)
  have px:=cNull (K:=n) (N:=N) P (Rws_bl F) (Rws_bl S) y (by rw [hN]; exact hym)
  have j1:=joinK (zR n) (y.shn P N n F S) (by omega) (by omega)
  have j2:=joinK (orR (zR n) (y.shn P N n F S)) (x.shn P N n F S) (by rw [orR_len]; omega) (by rw [orR_len]; omega)
  have j3:=joinK (zR n) (x.shn P N n F S) (by omega) (by omega)
  refine AC.lbody hT hm Tryz.func51 f51_nm f51_lc f51_res f51_nt ?_
  simp only [go_sem,iEq,iLE,iLT,iTN,zb,Cf.c_mk,Cf.cs_eq,hb]
  refine ⟨by omega,by omega,?_⟩
  rw [boR_rep]
  try simp only [go_sem,iEq,iLE,iLT,iTN,zb,Cf.c_mk,Cf.cs_eq,zc,zd,cf2_0,cf2_1,za,lMp]
  refine py.pv ⟨.same hq,.same (Cf.d_bl x),trivial⟩ ?_
  cases hpy:x.live false P <;> cases hnx:y.live true N
  ·simp only [go_sem,iEq,iLE,iLT,iTN,zb,Cf.c_mk,Cf.cs_eq,zc,zd,cf2_0,cf2_1,za,lMp]
   rw [hnx] at px
   refine px.pv ⟨.same hq,.same (Cf.d_bl y),trivial⟩ ?_
   simp only [go_sem,iEq,iLE,iLT,iTN,zb,Cf.c_mk,Cf.cs_eq,zc,zd,cf2_0,cf2_1,za,lMp]
   exact fun E0 E e _ hx hR ho=>⟨E,_,_,⟨rfl,rfl⟩,rfl,hx,hR,ho⟩
  ·simp only [go_sem,iEq,iLE,iLT,iTN,zb,Cf.c_mk,Cf.cs_eq,zc,zd,cf2_0,cf2_1,za,lMp]
   rw [hnx] at px
   refine px.pv ⟨.same hq,.same (Cf.d_bl y),trivial⟩ ?_
   simp only [go_sem,iEq,iLE,iLT,iTN,zb,Cf.c_mk,Cf.cs_eq,zc,zd,cf2_0,cf2_1,za,lMp]
   refine hx.pd ⟨.same hq,.same (Cf.d_bl x),.v,trivial⟩ (Bs_bl _) ?_
   simp only [go_sem,iEq,iLE,iLT,iTN,zb,Cf.c_mk,Cf.cs_eq,zc,zd,cf2_0,cf2_1,za,lMp]
   refine ⟨_,j3,?_⟩
   rintro _ _ ⟨rfl,rfl⟩
   simp only [go_sem,iEq,iLE,iLT,iTN,zb,Cf.c_mk,Cf.cs_eq,zc,zd,cf2_0,cf2_1,za,lMp]
   exact fun E0 E e _ hx hR ho=>⟨E,_,_,⟨rfl,rfl⟩,rfl,hx,hR,ho⟩
  ·simp only [go_sem,iEq,iLE,iLT,iTN,zb,Cf.c_mk,Cf.cs_eq,zc,zd,cf2_0,cf2_1,za,lMp]
   refine hy.pd ⟨.same hq,.same (Cf.d_bl y),.v,trivial⟩ (Bs_bl _) ?_
   simp only [go_sem,iEq,iLE,iLT,iTN,zb,Cf.c_mk,Cf.cs_eq,zc,zd,cf2_0,cf2_1,za,lMp]
   refine ⟨_,j1,?_⟩
   rintro _ _ ⟨rfl,rfl⟩
   simp only [go_sem,iEq,iLE,iLT,iTN,zb,Cf.c_mk,Cf.cs_eq,zc,zd,cf2_0,cf2_1,za,lMp]
   rw [hnx] at px
   refine px.pv ⟨.same hq,.same (Cf.d_bl y),trivial⟩ ?_
   simp only [go_sem,iEq,iLE,iLT,iTN,zb,Cf.c_mk,Cf.cs_eq,zc,zd,cf2_0,cf2_1,za,lMp]
   exact fun E0 E e _ hx hR ho=>⟨E,_,_,⟨rfl,rfl⟩,rfl,hx,hR,ho⟩
  ·simp only [go_sem,iEq,iLE,iLT,iTN,zb,Cf.c_mk,Cf.cs_eq,zc,zd,cf2_0,cf2_1,za,lMp]
   refine hy.pd ⟨.same hq,.same (Cf.d_bl y),.v,trivial⟩ (Bs_bl _) ?_
   simp only [go_sem,iEq,iLE,iLT,iTN,zb,Cf.c_mk,Cf.cs_eq,zc,zd,cf2_0,cf2_1,za,lMp]
   refine ⟨_,j1,?_⟩
   rintro _ _ ⟨rfl,rfl⟩
   simp only [go_sem,iEq,iLE,iLT,iTN,zb,Cf.c_mk,Cf.cs_eq,zc,zd,cf2_0,cf2_1,za,lMp]
   rw [hnx] at px
   refine px.pv ⟨.same hq,.same (Cf.d_bl y),trivial⟩ ?_
   simp only [go_sem,iEq,iLE,iLT,iTN,zb,Cf.c_mk,Cf.cs_eq,zc,zd,cf2_0,cf2_1,za,lMp]
   refine hx.pd ⟨.same hq,.same (Cf.d_bl x),.v,trivial⟩ (Bs_bl _) ?_
   simp only [go_sem,iEq,iLE,iLT,iTN,zb,Cf.c_mk,Cf.cs_eq,zc,zd,cf2_0,cf2_1,za,lMp]
   refine ⟨_,j2,?_⟩
   rintro _ _ ⟨rfl,rfl⟩
   simp only [go_sem,iEq,iLE,iLT,iTN,zb,Cf.c_mk,Cf.cs_eq,zc,zd,cf2_0,cf2_1,za,lMp]
   exact fun E0 E e _ hx hR ho=>⟨E,_,_,⟨rfl,rfl⟩,rfl,hx,hR,ho⟩
 ·intro x y hxm hym hx hy
  replace hx:=frzB hx
  replace hy:=frzB hy
  rw [shn_5]
  have hxl:=shn_len P N n F S x
  have hyl:=shn_len P N n F S y
  refine AC.lbody hT hm Tryz.func51 f51_nm f51_lc f51_res f51_nt ?_
  simp only [go_sem,iEq,iLE,iLT,iTN,zb,Cf.c_mk,Cf.cs_eq,hb]
  refine ⟨by omega,by omega,?_⟩
  rw [boR_rep]
  try simp only [go_sem,iEq,iLE,iLT,iTN,zb,Cf.c_mk,Cf.cs_eq,zc,zd,cf2_0,cf2_1,za,lMp]
  have px:=cNull (K:=n) (N:=N) P (Rws_bl F) (Rws_bl S) x (by rw [hN]; exact hxm)
  have py:=cNull (K:=n) (N:=N) P (Rws_bl F) (Rws_bl S) y (by rw [hN]; exact hym)
  have fx:=cFirst (Rws_bl S) hn hP hN hF x hxm
  have fy:=cFirst (Rws_bl S) hn hP hN hF y hym
  have gx:=fst_len P N n F x
  have gy:=fst_len P N n F y
  have js:=fun (k l:List Bool) (h1:k.length=n) (h2:l.length=n) (z:Ob)=>joinS k l (by omega) (by omega) [] [z]
  have hq2:∀ om (F':Nat→Bool) (kk:List (Option Nat)),Cv om F' kk (.pel (fcD P N (Rws F) (Rws S))) (.pel (fcD P N (Rws F) (Rws S))):=fun om F' kk=>.same hq
  obtain ⟨o1,ho1⟩:∃ o,o=shnOne (zR n) (x.shn P N n F S) (x.live true N) (y.fst P N n F):=⟨_,rfl⟩
  have ho1l:o1.length=n:=by rw [ho1,shnOne_len,hz]
  rw [← ho1]
  obtain ⟨o2,ho2⟩:∃ o,o=shnOne o1 (y.shn P N n F S) (y.live true N) (x.fst P N n F):=⟨_,rfl⟩
  rw [← ho2]
  have hqc:∀ om (F':Nat→Bool) (kk:List (Option Nat)),Cv om F' kk (.pel [.v (.int .u8 5),.v (.int .i64 0),.sl 3 [x.c,y.c]]) (.pel [.v (.int .u8 5),.v (.int .i64 0),.sl 3 [x.c,y.c]]):=by
   intro om F' kk
   have h:=Cf.c_bl (.mk 5 0 [x,y])
   rw [Cf.c_mk,Cf.cs_eq] at h
   exact .same (.pel h)
  have hqk:∀ om (F':Nat→Bool) (kk:List (Option Nat)),Cv om F' kk (.sl 3 [x.c,y.c]) (.sl 3 [x.c,y.c]):=by
   intro om F' kk
   have h:=Cf.c_bl (.mk 5 0 [x,y])
   rw [Cf.c_mk,Cf.cs_eq] at h
   exact .same (h _ (by simp))
  refine xl_loopM hT hm (fun i:Nat=>⟨f51_i18 (.pel (fcD P N (Rws F) (Rws S))) (.i n) (.pel (Cf.mk 5 0 [x,y]).c) (.own 0) (.sl 3 ([x,y].map Cf.c)) (.i 2) (.i i),[bOb (if i=0 then zR n else if i=1 then o1 else o2)]⟩)
   (fun i=>i≤2) (fun i=>2 - i) 0 (Nat.zero_le _) ?_ ?_
  ·refine Mv.of [some 0] rfl ⟨.slcS rfl (boR_bl _),trivial⟩ ?_
   simp [f51_i18,hq2,hqc,hqk,Cf.c_mk,Cf.cs_eq]
  intro i hi
  obtain rfl | rfl | rfl:i=0∨i=1∨i=2:=by omega
  ·simp only [go_sem,iEq,iLE,iLT,iTN,zb,wz0,wz1,wz2,iLE,iTN,ze,zf,zh,cz0,cz1,cz2,iLT,zi,if_true,if_false,zg,Cf.c_mk,Cf.cs_eq,zc,zd,cf2_0,cf2_1,za,lMp]
   refine hx.pd ⟨.same hq,.same (Cf.d_bl x),.v,trivial⟩ (Bs_bl _) ?_
   simp only [go_sem,iEq,iLE,iLT,iTN,zb,wz0,wz1,wz2,iLE,iTN,ze,zf,zh,cz0,cz1,cz2,iLT,zi,if_true,if_false,zg,Cf.c_mk,Cf.cs_eq,zc,zd,cf2_0,cf2_1,za,lMp]
   refine ⟨_,js (zR n) (x.shn P N n F S) (by omega) (by omega) _,?_⟩
   rintro _ _ ⟨_,⟨rfl,rfl⟩,rfl⟩
   simp only [go_sem,iEq,iLE,iLT,iTN,zb,wz0,wz1,wz2,iLE,iTN,ze,zf,zh,cz0,cz1,cz2,iLT,zi,if_true,if_false,zg,Cf.c_mk,Cf.cs_eq,zc,zd,cf2_0,cf2_1,za,lMp]
   refine px.pv ⟨.same hq,.same (Cf.d_bl x),trivial⟩ ?_
   cases hnx:x.live true N
   ·simp only [go_sem,iEq,iLE,iLT,iTN,zb,wz0,wz1,wz2,iLE,iTN,ze,zf,zh,cz0,cz1,cz2,iLT,zi,if_true,if_false,zg,Cf.c_mk,Cf.cs_eq,zc,zd,cf2_0,cf2_1,za,lMp]
    refine ⟨1,by omega,by omega,?_⟩
    rw [hnx] at ho1
    have ho:o1=orR (zR n) (x.shn P N n F S):=ho1
    simp only [cz0,cz1,cz2,zg,if_true,if_false]
    rw [ho]
    exact Mv.of [some 0] rfl ⟨.slcS rfl (boR_bl _),trivial⟩ (by simp [f51_i18,wz1,wz2,hq2,hqc,hqk,Cf.c_mk,Cf.cs_eq])
   ·simp only [go_sem,iEq,iLE,iLT,iTN,zb,wz0,wz1,wz2,iLE,iTN,ze,zf,zh,cz0,cz1,cz2,iLT,zi,if_true,if_false,zg,Cf.c_mk,Cf.cs_eq,zc,zd,cf2_0,cf2_1,za,lMp]
    refine fy.pd ⟨.same hq,.same (Cf.d_bl y),.v,trivial⟩ (Bs_bl _) ?_
    simp only [go_sem,iEq,iLE,iLT,iTN,zb,wz0,wz1,wz2,iLE,iTN,ze,zf,zh,cz0,cz1,cz2,iLT,zi,if_true,if_false,zg,Cf.c_mk,Cf.cs_eq,zc,zd,cf2_0,cf2_1,za,lMp]
    refine ⟨_,js (orR (zR n) (x.shn P N n F S)) (y.fst P N n F) (by rw [orR_len]; omega) (by omega) _,?_⟩
    rintro _ _ ⟨_,⟨rfl,rfl⟩,rfl⟩
    simp only [go_sem,iEq,iLE,iLT,iTN,zb,wz0,wz1,wz2,iLE,iTN,ze,zf,zh,cz0,cz1,cz2,iLT,zi,if_true,if_false,zg,Cf.c_mk,Cf.cs_eq,zc,zd,cf2_0,cf2_1,za,lMp]
    refine ⟨1,by omega,by omega,?_⟩
    rw [hnx] at ho1
    have ho:o1=orR (orR (zR n) (x.shn P N n F S)) (y.fst P N n F):=ho1
    simp only [cz0,cz1,cz2,zg,if_true,if_false]
    rw [ho]
    exact Mv.of [some 0] rfl ⟨.slcS rfl (boR_bl _),trivial⟩ (by simp [f51_i18,wz1,wz2,hq2,hqc,hqk,Cf.c_mk,Cf.cs_eq])
  ·simp only [go_sem,iEq,iLE,iLT,iTN,zb,wz0,wz1,wz2,iLE,iTN,ze,zf,zh,cz0,cz1,cz2,iLT,zi,if_true,if_false,zg,Cf.c_mk,Cf.cs_eq,zc,zd,cf2_0,cf2_1,za,lMp]
   refine hy.pd ⟨.same hq,.same (Cf.d_bl y),.v,trivial⟩ (Bs_bl _) ?_
   simp only [go_sem,iEq,iLE,iLT,iTN,zb,wz0,wz1,wz2,iLE,iTN,ze,zf,zh,cz0,cz1,cz2,iLT,zi,if_true,if_false,zg,Cf.c_mk,Cf.cs_eq,zc,zd,cf2_0,cf2_1,za,lMp]
   refine ⟨_,js o1 (y.shn P N n F S) (by omega) (by omega) _,?_⟩
   rintro _ _ ⟨_,⟨rfl,rfl⟩,rfl⟩
   simp only [go_sem,iEq,iLE,iLT,iTN,zb,wz0,wz1,wz2,iLE,iTN,ze,zf,zh,cz0,cz1,cz2,iLT,zi,if_true,if_false,zg,Cf.c_mk,Cf.cs_eq,zc,zd,cf2_0,cf2_1,za,lMp]
   refine py.pv ⟨.same hq,.same (Cf.d_bl y),trivial⟩ ?_
   cases hnx:y.live true N
   ·simp only [go_sem,iEq,iLE,iLT,iTN,zb,wz0,wz1,wz2,iLE,iTN,ze,zf,zh,cz0,cz1,cz2,iLT,zi,if_true,if_false,zg,Cf.c_mk,Cf.cs_eq,zc,zd,cf2_0,cf2_1,za,lMp]
    refine ⟨2,by omega,by omega,?_⟩
    rw [hnx] at ho2
    have ho:o2=orR o1 (y.shn P N n F S):=ho2
    simp only [cz0,cz1,cz2,zg,if_true,if_false]
    rw [ho]
    exact Mv.of [some 0] rfl ⟨.slcS rfl (boR_bl _),trivial⟩ (by simp [f51_i18,wz1,wz2,hq2,hqc,hqk,Cf.c_mk,Cf.cs_eq])
   ·simp only [go_sem,iEq,iLE,iLT,iTN,zb,wz0,wz1,wz2,iLE,iTN,ze,zf,zh,cz0,cz1,cz2,iLT,zi,if_true,if_false,zg,Cf.c_mk,Cf.cs_eq,zc,zd,cf2_0,cf2_1,za,lMp]
    refine fx.pd ⟨.same hq,.same (Cf.d_bl x),.v,trivial⟩ (Bs_bl _) ?_
    simp only [go_sem,iEq,iLE,iLT,iTN,zb,wz0,wz1,wz2,iLE,iTN,ze,zf,zh,cz0,cz1,cz2,iLT,zi,if_true,if_false,zg,Cf.c_mk,Cf.cs_eq,zc,zd,cf2_0,cf2_1,za,lMp]
    refine ⟨_,js (orR o1 (y.shn P N n F S)) (x.fst P N n F) (by rw [orR_len]; omega) (by omega) _,?_⟩
    rintro _ _ ⟨_,⟨rfl,rfl⟩,rfl⟩
    simp only [go_sem,iEq,iLE,iLT,iTN,zb,wz0,wz1,wz2,iLE,iTN,ze,zf,zh,cz0,cz1,cz2,iLT,zi,if_true,if_false,zg,Cf.c_mk,Cf.cs_eq,zc,zd,cf2_0,cf2_1,za,lMp]
    refine ⟨2,by omega,by omega,?_⟩
    rw [hnx] at ho2
    have ho:o2=orR (orR o1 (y.shn P N n F S)) (x.fst P N n F):=ho2
    simp only [cz0,cz1,cz2,zg,if_true,if_false]
    rw [ho]
    exact Mv.of [some 0] rfl ⟨.slcS rfl (boR_bl _),trivial⟩ (by simp [f51_i18,wz1,wz2,hq2,hqc,hqk,Cf.c_mk,Cf.cs_eq])
  ·simp only [go_sem,iEq,iLE,iLT,iTN,zb,wz0,wz1,wz2,iLE,iTN,ze,zf,zh,cz0,cz1,cz2,iLT,zi,if_true,if_false,zg,Cf.c_mk,Cf.cs_eq,zc,zd,cf2_0,cf2_1,za,lMp]
   exact fun E0 E e _ hx hR ho=>⟨E,_,_,⟨rfl,rfl⟩,rfl,hx,hR,ho⟩
end Go.Proofs.YtbmedfjmccnclaaGreat.W
set_option maxRecDepth 100000
namespace Go.Proofs.YtbmedfjmccnclaaGreat.W
open Go Go.Proofs Go.Proofs.YtbmedfjmccnclaaGreat.AWP
open Int renaming reduceEq→iEq,reduceLE→iLE,reduceLT→iLT,reduceToNat→iTN
open List renaming length_map→lMp
open _root_.Nat renaming div_one → za, mod_one → zb
attribute [local irreducible] xl hide aop aops aopQ qops guardP condP
abbrev inR (l:List Nat):List (List D):=l.map fun n:Nat=>[.i n]
abbrev Ins (l:List Nat):D:=.sl 1 (inR l)
abbrev inOb (l:List Nat):Ob:=.slc 3 1 (inR l)
theorem inR_bl (l:List Nat):∀ r∈inR l,∀ d∈r,Bl 0 d:=by
 intro r hr d hd
 obtain ⟨s,_,rfl⟩:=List.mem_map.1 hr
 rw [List.mem_singleton.1 hd]
 exact .v _
theorem Ins_bl (l:List Nat):Bl 0 (Ins l):=.sl (inR_bl l)
theorem inR_app (l:List Nat) (i:Nat):inR l++[[.i i]]=inR (l++[i]):=by simp
theorem cv_ins0 {om:List Ob} {F:Nat→Bool} {kk:List (Option Nat)}:Cv om F kk (.v (.slice Option.none 0 0)) (Ins []):=Cv.nil
set_option maxHeartbeats 4000000 in
theorem cList (l:List Bool) (hl:l.length≤1000000):AP Tryz.prog 49 [Bs l] (Ins (lstI 0 l)):=by
 have hq:∀ om (F:Nat→Bool) (kk:List (Option Nat)),Cv om F kk (Bs l) (Bs l):=fun om F kk=>.same (Bs_bl l)
 refine AC.lbody hT hm Tryz.func49 f49_nm f49_lc f49_res f49_nt ?_
 simp only [go_sem,iEq,iLE,iLT,iTN,lMp]
 refine xl_loopM hT hm (fun x:Nat × D × List Ob=>⟨f49_i8 x.2.1 (Bs l) (.i l.length) (.i x.1),x.2.2⟩)
  (fun x:Nat × D × List Ob=>x.1≤l.length∧((lstI 0 (l.take x.1)=[]∧x.2.1=.v (.slice none 0 0)∧x.2.2=[])∨(x.2.1=.own 0∧x.2.2=[inOb (lstI 0 (l.take x.1))]))) (fun x=>l.length - x.1) (0,.v (.slice none 0 0),[]) ⟨Nat.zero_le _,.inl ⟨by rw [List.take_zero]; rfl,rfl,rfl⟩⟩ ?_ ?_
 ·refine Mv.none ?_
  simp [f49_i8,hq]
 rintro ⟨i,d,om⟩ ⟨hi,hcase⟩
 simp only at hi hcase
 simp only [go_sem,iEq,iLE,iLT,iTN,lMp]
 by_cases hiq:i<l.length
 case neg=>
  have t2:l.take i=l:=List.take_of_length_le (by omega)
  rw [t2] at hcase
  rcases hcase with ⟨h0,rfl,rfl⟩ | ⟨rfl,rfl⟩
  ·simp only [go_sem,iEq,iLE,iLT,iTN,hiq]
   rw [h0]
   exact Fin.ret cv_ins0
  ·simp only [go_sem,iEq,iLE,iLT,iTN,hiq]
   exact Fin.ret (.frzS rfl rfl (inR_bl _))
 obtain ⟨b,hb⟩:=get_ex hiq
 have hg:=bo_get hb
 have ht:=lstI_take hb
 have hw:=wrap_succ i (by omega)
 rcases hcase with ⟨h0,rfl,rfl⟩ | ⟨rfl,rfl⟩
 ·cases b
  ·simp only [go_sem,iEq,iLE,iLT,iTN,hiq,hg,za,zb,hw]
   exact ⟨(i+1,.v (.slice none 0 0),[]),⟨hiq,.inl ⟨by rw [ht]; simp [h0],rfl,rfl⟩⟩,by simp only; omega,Mv.none (by simp [hq])⟩
  ·simp only [go_sem,iEq,iLE,iLT,iTN,hiq,hg,za,zb,hw]
   refine ⟨(i+1,.own 0,[inOb (lstI 0 (l.take (i+1)))]),⟨hiq,.inr ⟨rfl,rfl⟩⟩,by simp only; omega,?_⟩
   rw [ht,if_pos rfl,h0]
   exact Mv.of [some 0] rfl ⟨.slcS rfl (inR_bl _),trivial⟩ (by simp [hq])
 ·cases b
  ·simp only [go_sem,iEq,iLE,iLT,iTN,hiq,hg,za,zb,hw]
   refine ⟨(i+1,.own 0,[inOb (lstI 0 (l.take (i+1)))]),⟨hiq,.inr ⟨rfl,rfl⟩⟩,by simp only; omega,?_⟩
   rw [ht,if_neg (by simp)]
   exact Mv.of [some 0] rfl ⟨.slcS rfl (inR_bl _),trivial⟩ (by simp [hq])
  ·simp only [go_sem,iEq,iLE,iLT,iTN,hiq,hg,za,zb,hw]
   have hle:=lstI_len 0 (l.take i)
   rw [List.length_take] at hle
   refine ⟨by omega,(i+1,.own 0,[inOb (lstI 0 (l.take (i+1)))]),⟨hiq,.inr ⟨rfl,rfl⟩⟩,by simp only; omega,?_⟩
   rw [ht,if_pos rfl,inR_app]
   exact Mv.of [some 1] rfl ⟨.slcS rfl (inR_bl _),trivial⟩ (by simp [hq])
end Go.Proofs.YtbmedfjmccnclaaGreat.W
set_option maxRecDepth 100000
namespace Go.Proofs.YtbmedfjmccnclaaGreat.W
open Go Go.Proofs Go.Proofs.YtbmedfjmccnclaaGreat.AWP
open Int renaming reduceEq→iEq,reduceLE→iLE,reduceLT→iLT,reduceToNat→iTN
open List renaming length_map→lMp
attribute [local irreducible] xl hide aop aops aopQ qops guardP condP
set_option maxHeartbeats 4000000 in
theorem settleC {X:Type} [DecidableEq X] (f:FuncId) (cap:List D) (om:X→List Ob) (R:X→X) (Inv:X→Prop) (μ:X→Nat) (hR:∀ x,Inv x→Inv (R x)) (hμ:∀ x,Inv x→R x≠x→μ (R x)<μ x)
  (hc:∀ x,Inv x→AC Tryz.prog f cap (om x) (fun o om'=>o=.ret (.b (decide (R x≠x)))∧om'=om (R x))) (x0:X) (h0:Inv x0) :
  AC Tryz.prog 105 [.fn f cap] (om x0) (fun o om'=>o=.ret (.tup [])∧∃ k,om'=om (iter R k x0)∧R (iter R k x0)=iter R k x0):=by
 refine AC.lbody hT hm Tryz.func105 f105_nm f105_lc f105_res f105_nt ?_
 simp only [go_sem,iEq,iLE,iLT,iTN]
 refine xl_loopM hT hm (fun x:X=>⟨f105_i1 (.fn f cap),om x⟩)
  (fun x=>Inv x∧∃ k,x=iter R k x0) μ x0 ⟨h0,0,rfl⟩ ?_ ?_
 ·exact Mv.keep (by simp [f105_i1])
 rintro x ⟨hx,k,rfl⟩
 simp only [go_sem,iEq,iLE,iLT,iTN]
 refine ⟨_,hc _ hx,?_⟩
 rintro _ _ ⟨rfl,rfl⟩
 by_cases h:R (iter R k x0)=iter R k x0
 ·simp only [go_sem,iEq,iLE,iLT,iTN,h,ne_eq,not_true,decide_false]
  exact fun E0 E e _ hx hR ho=>⟨E,_,_,⟨rfl,k,rfl,h⟩,rfl,hx,hR,ho⟩
 ·simp only [go_sem,iEq,iLE,iLT,iTN,h,ne_eq,not_false_eq_true,decide_true]
  refine ⟨R (iter R k x0),⟨hR _ hx,k+1,(iter_succ R k x0).symm⟩,hμ _ hx h,?_⟩
  exact Mv.keep (by simp [f105_i1])
end Go.Proofs.YtbmedfjmccnclaaGreat.W
set_option maxRecDepth 100000
namespace Go.Proofs.YtbmedfjmccnclaaGreat.W
open Go Go.Proofs Go.Proofs.YtbmedfjmccnclaaGreat.AWP
open Int renaming reduceEq→iEq,reduceLE→iLE,reduceLT→iLT,reduceToNat→iTN
open List renaming length_map→lMp
open _root_.Nat renaming zero_le → za, reduceLT → ze, le_refl → zf
open _root_.List renaming set_cons_zero → zb, length_cons → zc, length_nil → zd
attribute [local irreducible] xl hide aop aops aopQ qops guardP condP
abbrev lkOb (g:Gr) (o1 o2 o3:Int) (P N F S:D):Ob:=.var 88 [Strs g.kinds,Defs g.defs,.v (.int .u32 o1),.v (.int .i32 o2),.v (.int .u32 o3),P,N,F,S]
abbrev boxK (g:Gr):Ob:=.var 3 [.i g.kinds.length]
abbrev boxD (g:Gr):Ob:=.var 23 [Defs g.defs]
abbrev boxF:Ob:=.var 96 [.ref 0 5]
abbrev om6 (g:Gr) (o1 o2 o3:Int) (dF dS:D) (P N:List Bool) (X:List Ob):List Ob:=[lkOb g o1 o2 o3 (.own 4) (.own 5) dF dS,boxK g,boxD g,boxF,bOb P,bOb N]++X
theorem bq00:(false == false)=true:=rfl
theorem bq01:(false == true)=false:=rfl
theorem bq10:(true == false)=false:=rfl
theorem bq11:(true == true)=true:=rfl
def rnd1 (l:List Df) (m:Nat) (x:List Bool × List Bool):List Bool × List Bool:=(swp (tellB false l) m 0 x.1,swp (tellB true l) m 0 x.2)
section
variable {g:Gr} {o1 o2 o3:Int} {dF dS:D}
theorem fcLend {om:List Ob} {F:Nat→Bool} {kk:List (Option Nat)} {P N:List Bool} (h0:om[0]? = some (lkOb g o1 o2 o3 (.own 4) (.own 5) dF dS)) (h4:om[4]? = some (bOb P)) (h5:om[5]? = some (bOb N)) (f0:F 0=true) (f4:F 4=true) (f5:F 5=true):Cv om F kk (.ref 0 5) (.pel (fcD P N .any .any)):=by
 refine .frv h0 f0 (by simp) ?_
 intro j d d' h1 h2
 match j with
 | 0=>cases h1; cases h2; exact .frzS h4 f4 (boR_bl _)
 | 1=>cases h1; cases h2; exact .frzS h5 f5 (boR_bl _)
 | 2=>cases h2; exact .any
 | 3=>cases h2; exact .any
 | j+4=>cases h2
theorem set_nw {α:Type} [DecidableEq α] {l k:List α} {i:Nat} {x v:α} (h1:l[i]? = some x) (h2:k[i]? = some x):decide (l.set i v≠k)=(decide (l≠k) || decide (v≠x)):=by
 by_cases hv:v=x
 ·subst hv
  have:l.set i v=l:=by
   apply List.ext_getElem?
   intro j
   by_cases hj:i=j
   ·subst hj
    rw [List.getElem?_set_self (List.getElem?_eq_some_iff.1 h1).1,h1]
   ·rw [List.getElem?_set_ne hj]
  rw [this]; simp
 ·have:l.set i v≠k:=by
   intro he
   rw [← he,List.getElem?_set_self (List.getElem?_eq_some_iff.1 h1).1] at h2
   exact hv (Option.some.inj h2)
  simp [this,hv]
theorem tell_some {null:Bool} {l:List Df} {i:Nat} {d:Df} (h:l[i]? = some d) (k:List Bool):tellB null l i k=d.2.live null k:=by unfold tellB; rw [h]
theorem rnd1_get {l:List Df} {P N:List Bool} {i:Nat} {x y:Bool} (h1:P[i]? = some x) (h2:N[i]? = some y):(rnd1 l i (P,N)).1[i]? = some x∧(rnd1 l i (P,N)).2[i]? = some y:=
 ⟨(swp_get _ i 0 P i (by omega)).trans h1,(swp_get _ i 0 N i (by omega)).trans h2⟩
theorem rnd1_succ {l:List Df} {P N:List Bool} {i:Nat} {d:Df} (h:l[i]? = some d):rnd1 l (i+1) (P,N)=((rnd1 l i (P,N)).1.set i (d.2.live false (rnd1 l i (P,N)).1),(rnd1 l i (P,N)).2.set i (d.2.live true (rnd1 l i (P,N)).2)):=by
 unfold rnd1
 rw [swp_snoc,swp_snoc,Nat.zero_add,tell_some h,tell_some h]
theorem rnd1_len (l:List Df) (i:Nat) (P N:List Bool):(rnd1 l i (P,N)).1.length=P.length∧(rnd1 l i (P,N)).2.length=N.length:=⟨swp_len ..,swp_len ..⟩
theorem pair_nw {A B P N:List Bool} {i:Nat} {x y u v:Bool} (h1:A[i]? = some x) (h2:P[i]? = some x) (h3:B[i]? = some y) (h4:N[i]? = some y):decide ((A.set i u,B.set i v)≠(P,N))=(decide ((A,B)≠(P,N)) || decide (u≠x) || decide (v≠y)):=by
 have e1:=set_nw (v:=u) h1 h2
 have e2:=set_nw (v:=v) h3 h4
 have pr:∀ a b:List Bool,decide ((a,b)≠(P,N))=(decide (a≠P) || decide (b≠N)):=by
  intro a b
  by_cases ha:a=P <;> by_cases hb:b=N <;> simp [ha,hb]
 rw [pr,pr,e1,e2]
 cases decide (A≠P) <;> cases decide (B≠N) <;> cases decide (u≠x) <;> cases decide (v≠y) <;> rfl
theorem lastG {X:List Ob} {z:Ob}:(X++[z])[X.length]? = some z:=by rw [List.getElem?_append_right (zf _),Nat.sub_self]; rfl
theorem lastS {X:List Ob} {z z':Ob}:(X++[z]).set X.length z'=X++[z']:=by rw [List.set_append_right _ _ (zf _),Nat.sub_self]; rfl
theorem dPut (d:Df) (t:Nat) (z1 z2 z3:D):obPut (.var t [.s d.1,z1,z2,z3]) 1 d.2.c=some (.var t (dfC d)):=by
 obtain ⟨n,r⟩:=d
 cases r
 simp only [Cf.c_mk,dfC]
 rfl
theorem df_get {l:List Df} {i:Nat} {d:Df} (h:l[i]? = some d):(dfR l)[i]? = some (dfC d):=by rw [List.getElem?_map,h]; rfl
theorem om6_bl {P N:List Bool} {X:List Ob} (hdF:Bl (X.length+6) dF) (hdS:Bl (X.length+6) dS) (hX:∀ o∈X,ObAll (Bl (X.length+6)) o):∀ o∈om6 g o1 o2 o3 dF dS P N X,ObAll (Bl (om6 g o1 o2 o3 dF dS P N X).length) o:=by
 intro o ho
 have hl:(om6 g o1 o2 o3 dF dS P N X).length=X.length+6:=rfl
 rw [hl]
 rcases List.mem_append.1 ho with h | h
 ·simp only [List.mem_cons,List.not_mem_nil,or_false] at h
  rcases h with rfl | rfl | rfl | rfl | rfl | rfl
  ·intro d hd
   simp only [List.mem_cons,List.not_mem_nil,or_false] at hd
   rcases hd with rfl | rfl | rfl | rfl | rfl | rfl | rfl | rfl | rfl
   ·exact (Strs_bl _).mono (za _)
   ·exact (Defs_bl _).mono (za _)
   ·exact .v _
   ·exact .v _
   ·exact .v _
   ·exact .own (by omega)
   ·exact .own (by omega)
   ·exact hdF
   ·exact hdS
  ·intro d hd
   rw [List.mem_singleton.1 hd]; exact .v _
  ·intro d hd
   rw [List.mem_singleton.1 hd]; exact (Defs_bl _).mono (za _)
  ·intro d hd
   rw [List.mem_singleton.1 hd]; exact .ref (by omega)
  ·exact fun r hr d hd=>(boR_bl _ r hr d hd).mono (za _)
  ·exact fun r hr d hd=>(boR_bl _ r hr d hd).mono (za _)
 ·exact hX o h
set_option maxHeartbeats 8000000 in
theorem learn1 (hd:∀ d∈g.defs,d.2.may g.kinds.length g.defs.length=true) (P N:List Bool) (X:List Ob) (hP:P.length=g.defs.length) (hN:N.length=g.defs.length) (hl:g.defs.length≤1000000) (hdF:Bl (X.length+6) dF) (hdS:Bl (X.length+6) dS) (hX:∀ o∈X,ObAll (Bl (X.length+6)) o) :
  AC Tryz.prog 106 [.ref 2 0,.ref 3 0] (om6 g o1 o2 o3 dF dS P N X) (fun o om=>o=.ret (.b (decide (rnd1 g.defs g.defs.length (P,N)≠(P,N))))∧om=om6 g o1 o2 o3 dF dS (rnd1 g.defs g.defs.length (P,N)).1 (rnd1 g.defs g.defs.length (P,N)).2 X):=by
 refine AC.lbody hT hm Tryz.func106 f106_nm f106_lc f106_res f106_nt ?_
 simp only [go_sem,iEq,iLE,iLT,iTN,lMp]
 have hq:∀ om (F':Nat→Bool) (kk:List (Option Nat)),Cv om F' kk (Defs g.defs) (Defs g.defs):=fun om F' kk=>.same (Defs_bl _)
 refine xl_loopM hT hm (fun i:Nat=>⟨f106_i9 (.ref 3 0) (.b (decide (rnd1 g.defs i (P,N)≠(P,N)))) (Defs g.defs) (.i g.defs.length) (.i i),om6 g o1 o2 o3 dF dS (rnd1 g.defs i (P,N)).1 (rnd1 g.defs i (P,N)).2 X⟩)
  (fun i=>i≤g.defs.length) (fun i=>g.defs.length - i) 0 (za _) ?_ ?_
 ·have e0:rnd1 g.defs 0 (P,N)=(P,N):=rfl
  rw [e0]
  exact Mv.keep (by simp [f106_i9])
 intro i hi
 simp only [go_sem,iEq,iLE,iLT,iTN,lMp]
 by_cases hiq:i<g.defs.length
 case neg=>
  have t2:i=g.defs.length:=by omega
  subst t2
  simp only [go_sem,iEq,iLE,iLT,iTN,hiq]
  exact fun E0 E e _ hx hR ho=>⟨E,_,_,⟨rfl,rfl⟩,rfl,hx,hR,ho⟩
 obtain ⟨d,hdi⟩:=get_ex hiq
 obtain ⟨x,hx⟩:=get_ex (l:=P) (show i<P.length by omega)
 obtain ⟨y,hy⟩:=get_ex (l:=N) (show i<N.length by omega)
 have hs:=rnd1_succ (P:=P) (N:=N) hdi
 obtain ⟨hax,hby⟩:=rnd1_get (l:=g.defs) hx hy
 obtain ⟨hal,hbl⟩:=rnd1_len g.defs i P N
 have hfl:=pair_nw (u:=d.2.live false (rnd1 g.defs i (P,N)).1) (v:=d.2.live true (rnd1 g.defs i (P,N)).2) hax hx hby hy
 rw [← hs] at hfl
 generalize rnd1 g.defs i (P,N)=z at hs hax hby hal hbl hfl ⊢
 obtain ⟨A,B⟩:=z
 dsimp only at hs hax hby hal hbl hfl ⊢
 have hg:=df_get hdi
 have hm:=hd d (List.mem_of_getElem? hdi)
 simp only [go_sem,iEq,iLE,iLT,iTN,hiq,hg,lMp,lastG,lastS,zc,zd,zb,ze,if_true,dPut]
 have hbA:Bl 0 D.any:=.any
 refine (cProd (K:=g.kinds.length) (P:=A) B .any .any d.2 (by rw [hal,hP]; exact hm)).qv ⟨fcLend rfl rfl rfl rfl rfl rfl,.same (Cf.d_bl _),trivial⟩ ?_
 have hgA:=bo_get hax
 have hgB:=bo_get hby
 have hiA:i<A.length:=by omega
 have hiB:i<B.length:=by omega
 have hw:=wrap_succ i (by omega)
 simp only [go_sem,iEq,iLE,iLT,iTN,Int.reduceBEq,hiq,hg,hgA,hgB,boR_set,lMp,lastG,lastS,zc,zd,zb,ze,if_true,dPut,Nat.div_one,Nat.mod_one,hiA,hiB,hw]
 refine (cNull (K:=g.kinds.length) (N:=B) A .any .any d.2 (by rw [hbl,hN]; exact hm)).pv ⟨fcLend rfl rfl rfl rfl rfl rfl,.same (Cf.d_bl _),trivial⟩ ?_
 generalize d.2.live false A=u at hs hfl ⊢
 generalize d.2.live true B=v at hs hfl ⊢
 generalize decide ((A,B)≠(P,N))=fl at hfl ⊢
 have hqd:Bl (X.length+1+1+1+1+1+1) (Defs g.defs):=(Defs_bl _).mono (za _)
 cases fl <;> cases u <;> cases x <;> cases v <;> cases y
 all_goals
  simp only [go_sem,iEq,iLE,iLT,iTN,Int.reduceBEq,hiq,hg,hgA,hgB,boR_set,lMp,lastG,lastS,zc,zd,zb,ze,if_true,dPut,Nat.div_one,Nat.mod_one,hiA,hiB,hw,bq00,bq01,bq10,bq11,Bool.not_true,Bool.not_false]
  refine ⟨i+1,by omega,by omega,?_⟩
  rw [hfl,hs]
  refine Mv.cut (om:=om6 g o1 o2 o3 dF dS (A.set i _) (B.set i _) X) (junk:=[_]) (zf _) (om6_bl hdF hdS hX) ?_
  simp [hqd]
end
end Go.Proofs.YtbmedfjmccnclaaGreat.W
set_option maxRecDepth 100000
namespace Go.Proofs.YtbmedfjmccnclaaGreat.W
open Go Go.Proofs Go.Proofs.YtbmedfjmccnclaaGreat.AWP
open Int renaming reduceEq→iEq,reduceLE→iLE,reduceLT→iLT,reduceToNat→iTN
open List renaming length_map→lMp
open _root_.List renaming getElem?_cons_succ → za, length_cons → zb, replicate_succ → zc, replicate → zd
attribute [local irreducible] xl hide aop aops aopQ qops guardP condP
def rwL:List (List Bool)→List (List Bool)→List Ob
 | f :: F,s :: S=>bOb f :: bOb s :: rwL F S
 | _,_=>[]
theorem rwL_len:∀ {F S:List (List Bool)},F.length=S.length→(rwL F S).length=2 * F.length
 | [],[],_=>rfl
 | f :: F,s :: S,h=>by
  have:=rwL_len (F:=F) (S:=S) (by simpa using h)
  simp only [rwL,zb]; omega
theorem rwL_F:∀ {F S:List (List Bool)} {i:Nat} {f:List Bool},F.length=S.length→F[i]? = some f→(rwL F S)[2 * i]? = some (bOb f)
 | [],_,_,_,_,h=>by simp at h
 | a :: F,[],_,_,h,_=>by simp at h
 | a :: F,s :: S,0,f,_,h=>by simp at h; subst h; rfl
 | a :: F,s :: S,i+1,f,hl,h=>by
  rw [rwL,show 2 * (i+1)=2 * i+1+1 by omega,za,za]
  exact rwL_F (by simpa using hl) (by simpa using h)
theorem rwL_S:∀ {F S:List (List Bool)} {i:Nat} {s:List Bool},F.length=S.length→S[i]? = some s→(rwL F S)[2 * i+1]? = some (bOb s)
 | _,[],_,_,_,h=>by simp at h
 | [],a :: S,_,_,h,_=>by simp at h
 | a :: F,s :: S,0,f,_,h=>by simp at h; subst h; rfl
 | a :: F,s :: S,i+1,f,hl,h=>by
  rw [rwL,show 2 * (i+1)+1=2 * i+1+1+1 by omega,za,za]
  exact rwL_S (by simpa using hl) (by simpa using h)
theorem rwL_cut:∀ {F S:List (List Bool)} {i:Nat} {f s:List Bool},F[i]? = some f→S[i]? = some s→rwL F S=rwL (F.take i) (S.take i)++bOb f :: bOb s :: rwL (F.drop (i+1)) (S.drop (i+1))
 | [],_,_,_,_,h,_=>by simp at h
 | a :: F,[],_,_,_,_,h=>by simp at h
 | a :: F,b :: S,0,f,s,h1,h2=>by simp at h1 h2; subst h1; subst h2; rfl
 | a :: F,b :: S,i+1,f,s,h1,h2=>by
  have:=rwL_cut (F:=F) (S:=S) (i:=i) (f:=f) (s:=s) (by simpa using h1) (by simpa using h2)
  rw [rwL,this]
  rfl
theorem tk_set {α:Type}:∀ (l:List α) (i:Nat) (x:α),(l.set i x).take i=l.take i∧(l.set i x).drop (i+1)=l.drop (i+1)
 | [],i,x=>by simp
 | a :: l,0,x=>by simp
 | a :: l,i+1,x=>by
  have:=tk_set l i x
  simp [this]
theorem rwL_setF {F S:List (List Bool)} {i:Nat} {f s f':List Bool} (h1:F[i]? = some f) (h2:S[i]? = some s):rwL (F.set i f') S=rwL (F.take i) (S.take i)++bOb f' :: bOb s :: rwL (F.drop (i+1)) (S.drop (i+1)):=by
 have h:(F.set i f')[i]? = some f':=List.getElem?_set_self (List.getElem?_eq_some_iff.1 h1).1
 rw [rwL_cut h h2,(tk_set F i f').1,(tk_set F i f').2]
theorem rwL_setS {F S:List (List Bool)} {i:Nat} {f s s':List Bool} (h1:F[i]? = some f) (h2:S[i]? = some s):rwL F (S.set i s')=rwL (F.take i) (S.take i)++bOb f :: bOb s' :: rwL (F.drop (i+1)) (S.drop (i+1)):=by
 have h:(S.set i s')[i]? = some s':=List.getElem?_set_self (List.getElem?_eq_some_iff.1 h2).1
 rw [rwL_cut h1 h,(tk_set S i s').1,(tk_set S i s').2]
theorem rwL_bl:∀ (F S:List (List Bool)) (n:Nat),∀ o∈rwL F S,ObAll (Bl n) o
 | [],_,n=>by intro o ho; simp [rwL] at ho
 | a :: F,[],n=>by intro o ho; simp [rwL] at ho
 | a :: F,b :: S,n=>by
  intro o ho
  rw [rwL] at ho
  simp only [List.mem_cons] at ho
  rcases ho with rfl | rfl | ho
  ·exact fun r hr d hd=>(boR_bl _ r hr d hd).mono (Nat.zero_le _)
  ·exact fun r hr d hd=>(boR_bl _ r hr d hd).mono (Nat.zero_le _)
  ·exact rwL_bl F S n o ho
theorem rwL_rep {z:List Bool}:∀ n:Nat,rwL (zd n z) (zd n z)=zd (2 * n) (bOb z)
 | 0=>rfl
 | n+1=>by
  rw [zc,rwL,rwL_rep n,show 2 * (n+1)=2 * n+1+1 by omega,zc,zc]
abbrev owR (b n:Nat):List (List D):=(List.range n).map fun i=>[.own (b+2 * i)]
abbrev oOb (b n:Nat):Ob:=.slc 99 1 (owR b n)
theorem ow_get {b n i:Nat} (h:i<n):(owR b n)[i]? = some [.own (b+2 * i)]:=by rw [List.getElem?_map,List.getElem?_range h]; rfl
theorem ow_app (b n:Nat):owR b (n+1)=owR b n++[[.own (b+2 * n)]]:=by rw [owR,List.range_succ,List.map_append]; rfl
theorem ow_bl {b n m:Nat} (h:b+2 * n<m+2):∀ r∈owR b n,∀ d∈r,Bl m d:=by
 intro r hr d hd
 obtain ⟨i,hi,rfl⟩:=List.mem_map.1 hr
 have:=List.mem_range.1 hi
 rw [List.mem_singleton.1 hd]
 exact .own (by omega)
abbrev om8 (g:Gr) (o1 o2 o3:Int) (P N:List Bool) (F S:List (List Bool)):List Ob:=om6 g o1 o2 o3 (.own 6) (.own 7) P N (oOb 8 F.length :: oOb 9 S.length :: rwL F S)
section
variable {g:Gr} {o1 o2 o3:Int}
theorem om8_bl {P N:List Bool} {F S:List (List Bool)} (h:F.length=S.length):∀ o∈om8 g o1 o2 o3 P N F S,ObAll (Bl (om8 g o1 o2 o3 P N F S).length) o:=by
 have hl:=rwL_len h
 refine om6_bl (.own (by simp)) (.own (by simp)) ?_
 intro o ho
 simp only [List.mem_cons] at ho
 rcases ho with rfl | rfl | ho
 ·exact ow_bl (by simp only [zb,hl]; omega)
 ·exact ow_bl (by simp only [zb,hl]; omega)
 ·exact rwL_bl F S _ o ho
theorem rowsF_lend {om:List Ob} {A:Nat→Bool} {kk:List (Option Nat)} {b:Nat} {k:Nat} {F:List (List Bool)} (hk:om[k]? = some (oOb b F.length)) (fk:A k=true) (hA:∀ i,A (b+2 * i)=true)
  (h:∀ i f,F[i]? = some f→om[b+2 * i]? = some (bOb f)):Cv om A kk (.own k) (Rws F):=by
 refine .frz hk fk (by simp) (fun i r r' h1 h2=>?_) (fun i r r' j d d' h1 h2 h3 h4=>?_)
 ·obtain ⟨f,hf⟩:=get_ex (l:=F) (show i<F.length by have:=(List.getElem?_eq_some_iff.1 h1).1; simpa using this)
  have hi:=(List.getElem?_eq_some_iff.1 hf).1
  rw [ow_get hi] at h1; rw [bw_get hf] at h2
  cases h1; cases h2; rfl
 ·obtain ⟨f,hf⟩:=get_ex (l:=F) (show i<F.length by have:=(List.getElem?_eq_some_iff.1 h1).1; simpa using this)
  have hi:=(List.getElem?_eq_some_iff.1 hf).1
  rw [ow_get hi] at h1; rw [bw_get hf] at h2
  cases h1; cases h2
  match j with
  | 0=>cases h3; cases h4; exact .frzS (h i f hf) (hA i) (boR_bl f)
  | j+1=>cases h3
theorem fcLend8 {om:List Ob} {A:Nat→Bool} {kk:List (Option Nat)} {P N:List Bool} {F S:List (List Bool)} (h0:om[0]? = some (lkOb g o1 o2 o3 (.own 4) (.own 5) (.own 6) (.own 7))) (h4:om[4]? = some (bOb P)) (h5:om[5]? = some (bOb N)) (h6:om[6]? = some (oOb 8 F.length)) (h7:om[7]? = some (oOb 9 S.length))
  (hF:∀ i f,F[i]? = some f→om[8+2 * i]? = some (bOb f)) (hS:∀ i f,S[i]? = some f→om[9+2 * i]? = some (bOb f)) (hA:∀ i,A i=true):Cv om A kk (.ref 0 5) (.pel (fcD P N (Rws F) (Rws S))):=by
 refine .frv h0 (hA 0) (by simp) ?_
 intro j d d' h1 h2
 match j with
 | 0=>cases h1; cases h2; exact .frzS h4 (hA 4) (boR_bl _)
 | 1=>cases h1; cases h2; exact .frzS h5 (hA 5) (boR_bl _)
 | 2=>cases h1; cases h2; exact rowsF_lend h6 (hA 6) (fun i=>hA _) hF
 | 3=>cases h1; cases h2; exact rowsF_lend h7 (hA 7) (fun i=>hA _) hS
 | j+4=>cases h2
theorem om8_F {P N:List Bool} {F S:List (List Bool)} {Y:List Ob} (h:F.length=S.length) {i:Nat} {f:List Bool} (hf:F[i]? = some f):(om8 g o1 o2 o3 P N F S++Y)[8+2 * i]? = some (bOb f):=by
 have:=rwL_F h hf
 rw [List.getElem?_append_left (by have:=(List.getElem?_eq_some_iff.1 this).1; simp only [List.length_append,zb]; omega)]
 rw [show 8+2 * i=2 * i+1+1+1+1+1+1+1+1 by omega]
 exact this
theorem om8_S {P N:List Bool} {F S:List (List Bool)} {Y:List Ob} (h:F.length=S.length) {i:Nat} {f:List Bool} (hf:S[i]? = some f):(om8 g o1 o2 o3 P N F S++Y)[9+2 * i]? = some (bOb f):=by
 have:=rwL_S h hf
 rw [List.getElem?_append_left (by have:=(List.getElem?_eq_some_iff.1 this).1; simp only [List.length_append,zb]; omega)]
 rw [show 9+2 * i=2 * i+1+1+1+1+1+1+1+1+1 by omega]
 exact this
end
end Go.Proofs.YtbmedfjmccnclaaGreat.W
set_option maxRecDepth 100000
namespace Go.Proofs.YtbmedfjmccnclaaGreat.W
open Go Go.Proofs Go.Proofs.YtbmedfjmccnclaaGreat.AWP
open Int renaming reduceEq→iEq,reduceLE→iLE,reduceLT→iLT,reduceToNat→iTN
open List renaming length_map→lMp
open _root_.List renaming length_take → za, length_cons → zb, length_nil → zc, mem_of_getElem? → zd, length_append → ze
attribute [local irreducible] xl hide aop aops aopQ qops guardP condP
theorem boR_plain (l:List Bool):∀ r∈boR l,∀ d∈r,Plain d:=by
 intro r hr d hd
 obtain ⟨s,_,rfl⟩:=List.mem_map.1 hr
 rw [List.mem_singleton.1 hd]
 exact .v _
theorem joinRowF {g:Gr} {o1 o2 o3:Int} {P N:List Bool} {F S:List (List Bool)} {Y:List Ob} {i:Nat} {f l:List Bool} (h:F.length=S.length) (hf:F[i]? = some f) (hl:l.length≤f.length) (hk:f.length≤1000000) :
  AC Tryz.prog 81 [.own (8+2 * i),Bs l] (om8 g o1 o2 o3 P N F S++Y) (fun o om=>o=.ret (.b (decide (orR f l≠f)))∧om=om8 g o1 o2 o3 P N (F.set i (orR f l)) S++Y):=by
 have hi:i<F.length:=(List.getElem?_eq_some_iff.1 hf).1
 obtain ⟨s,hs⟩:=get_ex (l:=S) (show i<S.length by omega)
 have hj:=joinS f l hl hk ([lkOb g o1 o2 o3 (.own 4) (.own 5) (.own 6) (.own 7),boxK g,boxD g,boxF,bOb P,bOb N,oOb 8 F.length,oOb 9 S.length]++rwL (F.take i) (S.take i)) (bOb s :: rwL (F.drop (i+1)) (S.drop (i+1))++Y)
 have hlen:([lkOb g o1 o2 o3 (.own 4) (.own 5) (.own 6) (.own 7),boxK g,boxD g,boxF,bOb P,bOb N,oOb 8 F.length,oOb 9 S.length]++rwL (F.take i) (S.take i)).length=8+2 * i:=by
  rw [ze,rwL_len (by rw [za,za]; omega),za,Nat.min_eq_left (by omega)]
  simp only [zb,zc]
 rw [hlen] at hj
 have e1:([lkOb g o1 o2 o3 (.own 4) (.own 5) (.own 6) (.own 7),boxK g,boxD g,boxF,bOb P,bOb N,oOb 8 F.length,oOb 9 S.length]++rwL (F.take i) (S.take i))++[bOb f]++(bOb s :: rwL (F.drop (i+1)) (S.drop (i+1))++Y)=om8 g o1 o2 o3 P N F S++Y:=by
  rw [om8,om6,rwL_cut hf hs]; simp
 rw [e1] at hj
 refine hj.mono ?_
 rintro o om ⟨_,⟨rfl,rfl⟩,rfl⟩
 refine ⟨rfl,?_⟩
 rw [om8,om6,rwL_setF hf hs]; simp
theorem joinRowS {g:Gr} {o1 o2 o3:Int} {P N:List Bool} {F S:List (List Bool)} {Y:List Ob} {i:Nat} {f l:List Bool} (h:F.length=S.length) (hs:S[i]? = some f) (hl:l.length≤f.length) (hk:f.length≤1000000) :
  AC Tryz.prog 81 [.own (9+2 * i),Bs l] (om8 g o1 o2 o3 P N F S++Y) (fun o om=>o=.ret (.b (decide (orR f l≠f)))∧om=om8 g o1 o2 o3 P N F (S.set i (orR f l))++Y):=by
 have hi:i<S.length:=(List.getElem?_eq_some_iff.1 hs).1
 obtain ⟨a,hf⟩:=get_ex (l:=F) (show i<F.length by omega)
 have hj:=joinS f l hl hk ([lkOb g o1 o2 o3 (.own 4) (.own 5) (.own 6) (.own 7),boxK g,boxD g,boxF,bOb P,bOb N,oOb 8 F.length,oOb 9 S.length]++rwL (F.take i) (S.take i)++[bOb a]) (rwL (F.drop (i+1)) (S.drop (i+1))++Y)
 have hlen:([lkOb g o1 o2 o3 (.own 4) (.own 5) (.own 6) (.own 7),boxK g,boxD g,boxF,bOb P,bOb N,oOb 8 F.length,oOb 9 S.length]++rwL (F.take i) (S.take i)++[bOb a]).length=9+2 * i:=by
  rw [ze,ze,rwL_len (by rw [za,za]; omega),za,Nat.min_eq_left (by omega)]
  simp only [zb,zc]
  omega
 rw [hlen] at hj
 have e1:([lkOb g o1 o2 o3 (.own 4) (.own 5) (.own 6) (.own 7),boxK g,boxD g,boxF,bOb P,bOb N,oOb 8 F.length,oOb 9 S.length]++rwL (F.take i) (S.take i)++[bOb a])++[bOb f]++(rwL (F.drop (i+1)) (S.drop (i+1))++Y)=om8 g o1 o2 o3 P N F S++Y:=by
  rw [om8,om6,rwL_cut hf hs]; simp
 rw [e1] at hj
 refine hj.mono ?_
 rintro o om ⟨_,⟨rfl,rfl⟩,rfl⟩
 refine ⟨rfl,?_⟩
 rw [om8,om6,rwL_setS hf hs]; simp
def rnd2 (P N:List Bool) (n:Nat) (l:List Df) (m:Nat) (x:List (List Bool)):List (List Bool):=swp (joinT (tellF P N n l)) m 0 x
section
variable {g:Gr} {o1 o2 o3:Int}
theorem rnd2_len (P N:List Bool) (n:Nat) (l:List Df) (m:Nat) (x:List (List Bool)):(rnd2 P N n l m x).length=x.length:=swp_len ..
theorem rnd2_get {P N:List Bool} {n:Nat} {l:List Df} {x:List (List Bool)} {i:Nat} {f:List Bool} (h:x[i]? = some f):(rnd2 P N n l i x)[i]? = some f:=(swp_get _ i 0 x i (by omega)).trans h
theorem rnd2_succ {P N:List Bool} {n:Nat} {l:List Df} {x:List (List Bool)} {i:Nat} {d:Df} {f:List Bool} (h:l[i]? = some d) (hf:x[i]? = some f):rnd2 P N n l (i+1) x=(rnd2 P N n l i x).set i (orR f (d.2.fst P N n (rnd2 P N n l i x))):=by
 have hg:=rnd2_get (P:=P) (N:=N) (n:=n) (l:=l) hf
 unfold rnd2 at hg ⊢
 rw [swp_snoc,Nat.zero_add]
 unfold joinT
 unfold joinT at hg
 rw [List.getD_eq_getElem?_getD,hg]
 simp only [Option.getD_some]
 unfold tellF
 rw [h]
theorem rnd2_ok {P N:List Bool} {n:Nat} {l:List Df} {x:List (List Bool)} (hx:FsOk n x) (m:Nat) (hm:m≤x.length):FsOk n (rnd2 P N n l m x):=by
 induction m with
 | zero=>exact hx
 | succ m ih=>
  have ih:=ih (by omega)
  obtain ⟨f,hf⟩:=get_ex (l:=x) (show m<x.length by omega)
  have hg:=rnd2_get (P:=P) (N:=N) (n:=n) (l:=l) hf
  unfold rnd2 at ih hg ⊢
  rw [swp_snoc,Nat.zero_add]
  intro y hy
  rcases List.mem_or_eq_of_mem_set hy with h | h
  ·exact ih y h
  ·rw [h,joinT,orR_len,List.getD_eq_getElem?_getD,hg]
   exact hx f (zd hf)
set_option maxHeartbeats 8000000 in
theorem learn2 (hd:∀ d∈g.defs,d.2.may g.kinds.length g.defs.length=true) (P N:List Bool) (F S:List (List Bool)) (hP:P.length=g.defs.length) (hN:N.length=g.defs.length) (hFl:F.length=g.defs.length) (hSl:S.length=g.defs.length) (hFo:FsOk g.kinds.length F) (hSo:FsOk g.kinds.length S) (hl:g.defs.length≤1000000) (hn:g.kinds.length≤1000000) :
  AC Tryz.prog 107 [.ref 2 0,.ref 3 0,.ref 1 0] (om8 g o1 o2 o3 P N F S) (fun o om=>o=.ret (.b (decide (rnd2 P N g.kinds.length g.defs g.defs.length F≠F)))∧om=om8 g o1 o2 o3 P N (rnd2 P N g.kinds.length g.defs g.defs.length F) S):=by
 refine AC.lbody hT hm Tryz.func107 f107_nm f107_lc f107_res f107_nt ?_
 simp only [go_sem,iEq,iLE,iLT,iTN,lMp]
 have hq:∀ om (F':Nat→Bool) (kk:List (Option Nat)),Cv om F' kk (Defs g.defs) (Defs g.defs):=fun om F' kk=>.same (Defs_bl _)
 refine xl_loopM hT hm (fun i:Nat=>⟨f107_i7 (.ref 3 0) (.ref 1 0) (.b (decide (rnd2 P N g.kinds.length g.defs i F≠F))) (Defs g.defs) (.i g.defs.length) (.i i),om8 g o1 o2 o3 P N (rnd2 P N g.kinds.length g.defs i F) S⟩)
  (fun i=>i≤g.defs.length) (fun i=>g.defs.length - i) 0 (Nat.zero_le _) ?_ ?_
 ·have e0:rnd2 P N g.kinds.length g.defs 0 F=F:=rfl
  rw [e0]
  exact Mv.keep (by simp [f107_i7])
 intro i hi
 simp only [go_sem,iEq,iLE,iLT,iTN,lMp]
 by_cases hiq:i<g.defs.length
 case neg=>
  have t2:i=g.defs.length:=by omega
  subst t2
  simp only [go_sem,iEq,iLE,iLT,iTN,hiq]
  exact fun E0 E e _ hx hR ho=>⟨E,_,_,⟨rfl,rfl⟩,rfl,hx,hR,ho⟩
 obtain ⟨d,hdi⟩:=get_ex hiq
 obtain ⟨f,hf⟩:=get_ex (l:=F) (show i<F.length by omega)
 have hs:=rnd2_succ (P:=P) (N:=N) (n:=g.kinds.length) hdi hf
 have hgf:=rnd2_get (P:=P) (N:=N) (n:=g.kinds.length) (l:=g.defs) hf
 have hal:=rnd2_len P N g.kinds.length g.defs i F
 have hok:=rnd2_ok (P:=P) (N:=N) (n:=g.kinds.length) (l:=g.defs) hFo i (by omega)
 have hfl:=set_nw (v:=orR f (d.2.fst P N g.kinds.length (rnd2 P N g.kinds.length g.defs i F))) hgf hf
 rw [← hs] at hfl
 generalize rnd2 P N g.kinds.length g.defs i F=A at hs hgf hal hok hfl ⊢
 rw [hFl] at hal
 have hg:=df_get hdi
 have hm:=hd d (zd hdi)
 have hgo:=ow_get (b:=8) (n:=A.length) (i:=i) (by omega)
 have hiA:i<A.length:=by omega
 have hir:(owR 8 A.length).length=A.length:=by simp
 have hw:=wrap_succ i (by omega)
 have hfn:f.length=g.kinds.length:=hok f (zd hgf)
 simp only [go_sem,iEq,iLE,iLT,iTN,hiq,hg,lMp,lastG,lastS,zb,zc,List.set_cons_zero,Nat.reduceLT,if_true,dPut,hgo,hir,hiA,Nat.div_one,Nat.mod_one]
 refine ⟨_,(cFirstO (Rws_bl S) hn (by omega) (by omega) hok d.2 (by rw [hal]; exact hm)).lendD ⟨fcLend8 rfl rfl rfl rfl rfl (fun i f hf=>om8_F (by omega) hf) (fun i f hf=>om8_S (by omega) hf) (fun _=>rfl),.same (Cf.d_bl _),.v,trivial⟩ (boR_plain _),?_⟩
 simp only [go_sem,iEq,iLE,iLT,iTN,hiq,hg,lMp,lastG,lastS,zb,zc,List.set_cons_zero,Nat.reduceLT,if_true,dPut,hgo,hir,hiA,Nat.div_one,Nat.mod_one]
 refine ⟨_,joinRowF (by omega) hgf (by rw [fst_len,hfn]; exact Nat.le_refl _) (by omega),?_⟩
 rintro _ _ ⟨rfl,rfl⟩
 have hll:(A.set i (orR f (d.2.fst P N g.kinds.length A))).length=A.length:=List.length_set
 generalize orR f (d.2.fst P N g.kinds.length A)=u at hs hfl hll ⊢
 generalize decide (A≠F)=fl at hfl ⊢
 generalize decide (u≠f)=ff at hfl ⊢
 cases fl <;> cases ff
 all_goals
  simp only [go_sem,iEq,iLE,iLT,iTN,hiq,hw,Int.reduceBEq]
  refine ⟨i+1,by omega,by omega,?_⟩
  have hb:(rwL F S).length=(rwL (A.set i u) S).length:=by rw [rwL_len (by omega),rwL_len (by omega)] <;> (try omega)
  rw [hfl,hs]
  rw [← hll]
  refine Mv.cut (om:=om8 g o1 o2 o3 P N (A.set i u) S) (junk:=[_]) (by simp only [zb,hb]; exact Nat.le_refl _) (om8_bl (by omega)) ?_
  simp [(Defs_bl g.defs).mono (Nat.zero_le _)]
end
end Go.Proofs.YtbmedfjmccnclaaGreat.W
set_option maxRecDepth 100000
namespace Go.Proofs.YtbmedfjmccnclaaGreat.W
open Go Go.Proofs Go.Proofs.YtbmedfjmccnclaaGreat.AWP
open Int renaming reduceEq→iEq,reduceLE→iLE,reduceLT→iLT,reduceToNat→iTN
open List renaming length_map→lMp
open _root_.List renaming mem_of_getElem? → za, length_cons → zb
attribute [local irreducible] xl hide aop aops aopQ qops guardP condP
def rnd3 (P N:List Bool) (n:Nat) (F:List (List Bool)) (l:List Df) (m:Nat) (x:List (List Bool)):List (List Bool):=swp (joinT (tellS P N n F l)) m 0 x
section
variable {g:Gr} {o1 o2 o3:Int}
theorem rnd3_len (P N:List Bool) (n:Nat) (F:List (List Bool)) (l:List Df) (m:Nat) (x:List (List Bool)):(rnd3 P N n F l m x).length=x.length:=swp_len ..
theorem rnd3_get {P N:List Bool} {n:Nat} {F:List (List Bool)} {l:List Df} {x:List (List Bool)} {i:Nat} {f:List Bool} (h:x[i]? = some f):(rnd3 P N n F l i x)[i]? = some f:=(swp_get _ i 0 x i (by omega)).trans h
theorem rnd3_succ {P N:List Bool} {n:Nat} {F:List (List Bool)} {l:List Df} {x:List (List Bool)} {i:Nat} {d:Df} {f:List Bool} (h:l[i]? = some d) (hf:x[i]? = some f):rnd3 P N n F l (i+1) x=(rnd3 P N n F l i x).set i (orR f (d.2.shn P N n F (rnd3 P N n F l i x))):=by
 have hg:=rnd3_get (P:=P) (N:=N) (n:=n) (F:=F) (l:=l) hf
 unfold rnd3 at hg ⊢
 rw [swp_snoc,Nat.zero_add]
 unfold joinT
 unfold joinT at hg
 rw [List.getD_eq_getElem?_getD,hg]
 simp only [Option.getD_some]
 unfold tellS
 rw [h]
theorem rnd3_ok {P N:List Bool} {n:Nat} {F:List (List Bool)} {l:List Df} {x:List (List Bool)} (hx:FsOk n x) (m:Nat) (hm:m≤x.length):FsOk n (rnd3 P N n F l m x):=by
 induction m with
 | zero=>exact hx
 | succ m ih=>
  have ih:=ih (by omega)
  obtain ⟨f,hf⟩:=get_ex (l:=x) (show m<x.length by omega)
  have hg:=rnd3_get (P:=P) (N:=N) (n:=n) (F:=F) (l:=l) hf
  unfold rnd3 at ih hg ⊢
  rw [swp_snoc,Nat.zero_add]
  intro y hy
  rcases List.mem_or_eq_of_mem_set hy with h | h
  ·exact ih y h
  ·rw [h,joinT,orR_len,List.getD_eq_getElem?_getD,hg]
   exact hx f (za hf)
set_option maxHeartbeats 8000000 in
theorem learn3 (hd:∀ d∈g.defs,d.2.may g.kinds.length g.defs.length=true) (P N:List Bool) (F S:List (List Bool)) (hP:P.length=g.defs.length) (hN:N.length=g.defs.length) (hFl:F.length=g.defs.length) (hSl:S.length=g.defs.length) (hFo:FsOk g.kinds.length F) (hSo:FsOk g.kinds.length S) (hl:g.defs.length≤1000000) (hn:g.kinds.length≤1000000) :
  AC Tryz.prog 108 [.ref 2 0,.ref 3 0,.ref 1 0] (om8 g o1 o2 o3 P N F S) (fun o om=>o=.ret (.b (decide (rnd3 P N g.kinds.length F g.defs g.defs.length S≠S)))∧om=om8 g o1 o2 o3 P N F (rnd3 P N g.kinds.length F g.defs g.defs.length S)):=by
 refine AC.lbody hT hm Tryz.func108 f108_nm f108_lc f108_res f108_nt ?_
 simp only [go_sem,iEq,iLE,iLT,iTN,lMp]
 have hq:∀ om (F':Nat→Bool) (kk:List (Option Nat)),Cv om F' kk (Defs g.defs) (Defs g.defs):=fun om F' kk=>.same (Defs_bl _)
 refine xl_loopM hT hm (fun i:Nat=>⟨f108_i7 (.ref 3 0) (.ref 1 0) (.b (decide (rnd3 P N g.kinds.length F g.defs i S≠S))) (Defs g.defs) (.i g.defs.length) (.i i),om8 g o1 o2 o3 P N F (rnd3 P N g.kinds.length F g.defs i S)⟩)
  (fun i=>i≤g.defs.length) (fun i=>g.defs.length - i) 0 (Nat.zero_le _) ?_ ?_
 ·have e0:rnd3 P N g.kinds.length F g.defs 0 S=S:=rfl
  rw [e0]
  exact Mv.keep (by simp [f108_i7])
 intro i hi
 simp only [go_sem,iEq,iLE,iLT,iTN,lMp]
 by_cases hiq:i<g.defs.length
 case neg=>
  have t2:i=g.defs.length:=by omega
  subst t2
  simp only [go_sem,iEq,iLE,iLT,iTN,hiq]
  exact fun E0 E e _ hx hR ho=>⟨E,_,_,⟨rfl,rfl⟩,rfl,hx,hR,ho⟩
 obtain ⟨d,hdi⟩:=get_ex hiq
 obtain ⟨f,hf⟩:=get_ex (l:=S) (show i<S.length by omega)
 have hs:=rnd3_succ (P:=P) (N:=N) (n:=g.kinds.length) (F:=F) hdi hf
 have hgf:=rnd3_get (P:=P) (N:=N) (n:=g.kinds.length) (F:=F) (l:=g.defs) hf
 have hal:=rnd3_len P N g.kinds.length F g.defs i S
 have hok:=rnd3_ok (P:=P) (N:=N) (n:=g.kinds.length) (F:=F) (l:=g.defs) hSo i (by omega)
 have hfl:=set_nw (v:=orR f (d.2.shn P N g.kinds.length F (rnd3 P N g.kinds.length F g.defs i S))) hgf hf
 rw [← hs] at hfl
 generalize rnd3 P N g.kinds.length F g.defs i S=A at hs hgf hal hok hfl ⊢
 rw [hSl] at hal
 have hg:=df_get hdi
 have hm:=hd d (za hdi)
 have hgo:=ow_get (b:=9) (n:=A.length) (i:=i) (by omega)
 have hiA:i<A.length:=by omega
 have hir:(owR 9 A.length).length=A.length:=by simp
 have hw:=wrap_succ i (by omega)
 have hfn:f.length=g.kinds.length:=hok f (za hgf)
 simp only [go_sem,iEq,iLE,iLT,iTN,hiq,hg,lMp,lastG,lastS,zb,List.length_nil,List.set_cons_zero,Nat.reduceLT,if_true,dPut,hgo,hir,hiA,Nat.div_one,Nat.mod_one]
 refine ⟨_,(cShunO  hn (by omega) (by omega) (by omega) hFo hok d.2 (by rw [hFl]; exact hm)).lendD ⟨fcLend8 rfl rfl rfl rfl rfl (fun i f hf=>om8_F (by omega) hf) (fun i f hf=>om8_S (by omega) hf) (fun _=>rfl),.same (Cf.d_bl _),.v,trivial⟩ (boR_plain _),?_⟩
 simp only [go_sem,iEq,iLE,iLT,iTN,hiq,hg,lMp,lastG,lastS,zb,List.length_nil,List.set_cons_zero,Nat.reduceLT,if_true,dPut,hgo,hir,hiA,Nat.div_one,Nat.mod_one]
 refine ⟨_,joinRowS (by omega) hgf (by rw [shn_len,hfn]; exact Nat.le_refl _) (by omega),?_⟩
 rintro _ _ ⟨rfl,rfl⟩
 have hll:(A.set i (orR f (d.2.shn P N g.kinds.length F A))).length=A.length:=List.length_set
 generalize orR f (d.2.shn P N g.kinds.length F A)=u at hs hfl hll ⊢
 generalize decide (A≠S)=fl at hfl ⊢
 generalize decide (u≠f)=ff at hfl ⊢
 cases fl <;> cases ff
 all_goals
  simp only [go_sem,iEq,iLE,iLT,iTN,hiq,hw,Int.reduceBEq]
  refine ⟨i+1,by omega,by omega,?_⟩
  have hb:(rwL F S).length=(rwL F (A.set i u)).length:=by rw [rwL_len (by omega),rwL_len (by omega)] <;> (try omega)
  rw [hfl,hs]
  rw [← hll]
  refine Mv.cut (om:=om8 g o1 o2 o3 P N F (A.set i u)) (junk:=[_]) (by simp only [zb,hb]; exact Nat.le_refl _) (om8_bl (by omega)) ?_
  simp [(Defs_bl g.defs).mono (Nat.zero_le _)]
end
end Go.Proofs.YtbmedfjmccnclaaGreat.W
set_option maxRecDepth 100000
namespace Go.Proofs.YtbmedfjmccnclaaGreat.W
open Go Go.Proofs Go.Proofs.YtbmedfjmccnclaaGreat.AWP
open Int renaming reduceEq→iEq,reduceLE→iLE,reduceLT→iLT,reduceToNat→iTN
open List renaming length_map→lMp
open _root_.List renaming replicate → za, eq_of_mem_replicate → zb
attribute [local irreducible] xl hide aop aops aopQ qops guardP condP
theorem iter_two {X Y:Type} (r:X→X) (s:Y→Y):∀ (k:Nat) (x:X) (y:Y),iter (fun p:X × Y=>(r p.1,s p.2)) k (x,y)=(iter r k x,iter s k y)
 | 0,x,y=>rfl
 | k+1,x,y=>by rw [iter_succ,iter_succ,iter_succ,iter_two r s k x y]
theorem cntB_le (l:List Bool):cntL cntB l≤l.length:=by
 have:=cntL_le (cnt:=cntB) (B:=1) l (fun x _=>by unfold cntB; split <;> omega)
 omega
theorem cntT_rows {n:Nat} {F:List (List Bool)} (h:FsOk n F):cntL cntT F≤F.length * n:=cntL_le F fun x hx=>by rw [← h x hx]; exact cntT_le x
theorem join_le (f:Nat→List (List Bool)→List Bool):∀ (m:Nat) (F:List (List Bool)),leL leR F (swp (joinT f) m 0 F)
 | 0,F=>leL_refl leR_refl F
 | m+1,F=>by
  rw [swp_snoc,Nat.zero_add]
  have ih:=join_le f m F
  by_cases hm:m<(swp (joinT f) m 0 F).length
  ·obtain ⟨x,hx⟩:=get_ex hm
   refine leL_trans (le:=leR) leR_trans ih (leL_set leR_refl hx ?_)
   rw [joinT,List.getD_eq_getElem?_getD,hx]
   exact orR_left _ _
  ·rw [List.set_eq_of_length_le (by omega)]; exact ih
section
variable {g:Gr} {o1 o2 o3:Int}
theorem settle1 {dF dS:D} (hd:∀ d∈g.defs,d.2.may g.kinds.length g.defs.length=true) (X:List Ob) (hl:g.defs.length≤1000000) (hdF:Bl (X.length+6) dF) (hdS:Bl (X.length+6) dS) (hX:∀ o∈X,ObAll (Bl (X.length+6)) o) :
  AC Tryz.prog 105 [.fn 106 [.ref 2 0,.ref 3 0]] (om6 g o1 o2 o3 dF dS (zR g.defs.length) (zR g.defs.length) X) (fun o om=>o=.ret (.tup [])∧om=om6 g o1 o2 o3 dF dS (liveR false g.defs) (liveR true g.defs) X):=by
 have hz:(zR g.defs.length).length=g.defs.length:=by simp [zR]
 have hi0:∀ null,InvL leB (tellB null g.defs) (zR g.defs.length):=fun null i x hx=>by rw [rep_get hx]; exact fun h=>by cases h
 refine (settleC 106 [.ref 2 0,.ref 3 0] (fun x:List Bool × List Bool=>om6 g o1 o2 o3 dF dS x.1 x.2 X) (rnd1 g.defs g.defs.length)
  (fun x=>x.1.length=g.defs.length∧x.2.length=g.defs.length∧InvL leB (tellB false g.defs) x.1∧InvL leB (tellB true g.defs) x.2) (fun x=>(g.defs.length - cntL cntB x.1)+(g.defs.length - cntL cntB x.2)) ?_ ?_ ?_ (zR g.defs.length,zR g.defs.length) ⟨hz,hz,hi0 _,hi0 _⟩).mono ?_
 ·rintro ⟨a,b⟩ ⟨h1,h2,h3,h4⟩
  exact ⟨(swp_len ..).trans h1,(swp_len ..).trans h2,(inv_swp leB_refl leB_trans (tellB_mono _ _) _ 0 h3).1,(inv_swp leB_refl leB_trans (tellB_mono _ _) _ 0 h4).1⟩
 ·rintro ⟨a,b⟩ ⟨h1,h2,h3,h4⟩ hne
  dsimp only at h1 h2 h3 h4
  have i1:=(inv_swp leB_refl leB_trans (tellB_mono _ _) g.defs.length 0 h3).2
  have i2:=(inv_swp leB_refl leB_trans (tellB_mono _ _) g.defs.length 0 h4).2
  have c1:=leL_cnt (cnt:=cntB) leB_cnt i1
  have c2:=leL_cnt (cnt:=cntB) leB_cnt i2
  have l1:=cntB_le (swp (tellB false g.defs) g.defs.length 0 a)
  have l2:=cntB_le (swp (tellB true g.defs) g.defs.length 0 b)
  rw [swp_len] at l1 l2
  dsimp only [rnd1] at hne ⊢
  by_cases e1:a=swp (tellB false g.defs) g.defs.length 0 a
  ·have e2:b≠swp (tellB true g.defs) g.defs.length 0 b:=fun e2=>hne (by rw [← e1,← e2])
   have:=c2.2 e2
   have:=c1.1
   omega
  ·have:=c1.2 e1
   have:=c2.1
   omega
 ·rintro ⟨a,b⟩ ⟨h1,h2,h3,h4⟩
  exact learn1 hd a b X h1 h2 hl hdF hdS hX
 ·rintro o om ⟨rfl,k,rfl,hk⟩
  refine ⟨rfl,?_⟩
  have e:iter (rnd1 g.defs g.defs.length) k (zR g.defs.length,zR g.defs.length)=(iter (swp (tellB false g.defs) g.defs.length 0) k (zR g.defs.length),iter (swp (tellB true g.defs) g.defs.length 0) k (zR g.defs.length)):=iter_two _ _ k _ _
  rw [e] at hk ⊢
  simp only [rnd1,Prod.mk.injEq] at hk
  rw [live_done false _ hk.1,live_done true _ hk.2]
theorem settle2 (hd:∀ d∈g.defs,d.2.may g.kinds.length g.defs.length=true) (P N:List Bool) (S:List (List Bool)) (hP:P.length=g.defs.length) (hN:N.length=g.defs.length) (hSl:S.length=g.defs.length) (hSo:FsOk g.kinds.length S) (hl:g.defs.length≤1000000) (hn:g.kinds.length≤1000000) :
  AC Tryz.prog 105 [.fn 107 [.ref 2 0,.ref 3 0,.ref 1 0]] (om8 g o1 o2 o3 P N (za g.defs.length (zR g.kinds.length)) S) (fun o om=>o=.ret (.tup [])∧om=om8 g o1 o2 o3 P N (fstR P N g.kinds.length g.defs) S):=by
 refine (settleC 107 [.ref 2 0,.ref 3 0,.ref 1 0] (fun F:List (List Bool)=>om8 g o1 o2 o3 P N F S) (rnd2 P N g.kinds.length g.defs g.defs.length)
  (fun F=>F.length=g.defs.length∧FsOk g.kinds.length F) (fun F=>g.defs.length * g.kinds.length - cntL cntT F) ?_ ?_ ?_ (za g.defs.length (zR g.kinds.length)) ⟨by simp,fun x hx=>by rw [zb hx]; simp⟩).mono ?_
 ·rintro F ⟨h1,h2⟩
  exact ⟨(swp_len ..).trans h1,rnd2_ok h2 _ (by omega)⟩
 ·rintro F ⟨h1,h2⟩ hne
  have h3:=rnd2_ok (P:=P) (N:=N) (l:=g.defs) h2 g.defs.length (by omega)
  have c1:=leL_cnt (cnt:=cntT) leR_cnt (join_le (tellF P N g.kinds.length g.defs) g.defs.length F)
  have l1:=cntT_rows h3
  have c2:=c1.2 fun e=>hne e.symm
  rw [rnd2_len,h1] at l1
  unfold rnd2 at l1 ⊢
  omega
 ·rintro F ⟨h1,h2⟩
  exact learn2 hd P N F S hP hN h1 hSl h2 hSo hl hn
 ·rintro o om ⟨rfl,k,rfl,hk⟩
  refine ⟨rfl,?_⟩
  have:=join_done (n:=g.kinds.length) (f:=tellF P N g.kinds.length g.defs) (m:=g.defs.length) (tellF_mono P N _ _) (fun i a=>by unfold tellF; split <;> simp [fst_len]) (k:=k) hk
  show om8 g o1 o2 o3 P N (iter (swp (joinT (tellF P N g.kinds.length g.defs)) g.defs.length 0) k (za g.defs.length (zR g.kinds.length))) S=_
  rw [this]; rfl
theorem settle3 (hd:∀ d∈g.defs,d.2.may g.kinds.length g.defs.length=true) (P N:List Bool) (F:List (List Bool)) (hP:P.length=g.defs.length) (hN:N.length=g.defs.length) (hFl:F.length=g.defs.length) (hFo:FsOk g.kinds.length F) (hl:g.defs.length≤1000000) (hn:g.kinds.length≤1000000) :
  AC Tryz.prog 105 [.fn 108 [.ref 2 0,.ref 3 0,.ref 1 0]] (om8 g o1 o2 o3 P N F (za g.defs.length (zR g.kinds.length))) (fun o om=>o=.ret (.tup [])∧om=om8 g o1 o2 o3 P N F (shnR P N g.kinds.length F g.defs)):=by
 refine (settleC 108 [.ref 2 0,.ref 3 0,.ref 1 0] (fun S:List (List Bool)=>om8 g o1 o2 o3 P N F S) (rnd3 P N g.kinds.length F g.defs g.defs.length)
  (fun S=>S.length=g.defs.length∧FsOk g.kinds.length S) (fun S=>g.defs.length * g.kinds.length - cntL cntT S) ?_ ?_ ?_ (za g.defs.length (zR g.kinds.length)) ⟨by simp,fun x hx=>by rw [zb hx]; simp⟩).mono ?_
 ·rintro S ⟨h1,h2⟩
  exact ⟨(swp_len ..).trans h1,rnd3_ok h2 _ (by omega)⟩
 ·rintro S ⟨h1,h2⟩ hne
  have h3:=rnd3_ok (P:=P) (N:=N) (F:=F) (l:=g.defs) h2 g.defs.length (by omega)
  have c1:=leL_cnt (cnt:=cntT) leR_cnt (join_le (tellS P N g.kinds.length F g.defs) g.defs.length S)
  have l1:=cntT_rows h3
  have c2:=c1.2 fun e=>hne e.symm
  rw [rnd3_len,h1] at l1
  unfold rnd3 at l1 ⊢
  omega
 ·rintro S ⟨h1,h2⟩
  exact learn3 hd P N F S hP hN hFl h1 hFo h2 hl hn
 ·rintro o om ⟨rfl,k,rfl,hk⟩
  refine ⟨rfl,?_⟩
  have:=join_done (n:=g.kinds.length) (f:=tellS P N g.kinds.length F g.defs) (m:=g.defs.length) (tellS_mono P N _ F _) (fun i a=>by unfold tellS; split <;> simp [shn_len]) (k:=k) hk
  show om8 g o1 o2 o3 P N F (iter (swp (joinT (tellS P N g.kinds.length F g.defs)) g.defs.length 0) k (za g.defs.length (zR g.kinds.length)))=_
  rw [this]; rfl
theorem liveR_len (null:Bool) (l:List Df):(liveR null l).length=l.length:=by
 have:∀ k,(iter (swp (tellB null l) l.length 0) k (zR l.length)).length=l.length:=by
  intro k
  induction k with
  | zero=>simp [iter]
  | succ k ih=>rw [iter_succ,swp_len,ih]
 exact this _
theorem fstR_len (P N:List Bool) (n:Nat) (l:List Df):(fstR P N n l).length=l.length:=by
 have:∀ k,(iter (swp (tellF P N n l) l.length 0) k (za l.length (zR n))).length=l.length:=by
  intro k
  induction k with
  | zero=>simp [iter]
  | succ k ih=>rw [iter_succ,swp_len,ih]
 exact this _
theorem shnR_len (P N:List Bool) (n:Nat) (F:List (List Bool)) (l:List Df):(shnR P N n F l).length=l.length:=by
 have:∀ k,(iter (swp (tellS P N n F l) l.length 0) k (za l.length (zR n))).length=l.length:=by
  intro k
  induction k with
  | zero=>simp [iter]
  | succ k ih=>rw [iter_succ,swp_len,ih]
 exact this _
theorem swp_ok {n:Nat} {f:Nat→List (List Bool)→List Bool} (hf:∀ i a,(f i a).length=n):∀ (m:Nat) (F:List (List Bool)),FsOk n F→FsOk n (swp f m 0 F)
 | 0,F,h=>h
 | m+1,F,h=>by
  rw [swp_snoc,Nat.zero_add]
  intro y hy
  rcases List.mem_or_eq_of_mem_set hy with h2 | h2
  ·exact swp_ok hf m F h y h2
  ·rw [h2]; exact hf _ _
theorem iter_ok {n:Nat} {R:List (List Bool)→List (List Bool)} (hR:∀ F,FsOk n F→FsOk n (R F)) (k:Nat) {F:List (List Bool)} (h:FsOk n F):FsOk n (iter R k F):=by
 induction k with
 | zero=>exact h
 | succ k ih=>rw [iter_succ]; exact hR _ ih
theorem rep_ok (m n:Nat):FsOk n (za m (zR n)):=fun x hx=>by rw [zb hx]; simp
theorem fstR_ok (P N:List Bool) (n:Nat) (l:List Df):FsOk n (fstR P N n l):=iter_ok (swp_ok (fun i a=>by unfold tellF; split <;> simp [fst_len]) _) _ (rep_ok _ _)
theorem shnR_ok (P N:List Bool) (n:Nat) (F:List (List Bool)) (l:List Df):FsOk n (shnR P N n F l):=iter_ok (swp_ok (fun i a=>by unfold tellS; split <;> simp [shn_len]) _) _ (rep_ok _ _)
end
end Go.Proofs.YtbmedfjmccnclaaGreat.W
set_option maxRecDepth 100000
namespace Go.Proofs.YtbmedfjmccnclaaGreat.W
open Go Go.Proofs Go.Proofs.YtbmedfjmccnclaaGreat.AWP
open Int renaming reduceEq→iEq,reduceLE→iLE,reduceLT→iLT,reduceToNat→iTN
open List renaming length_map→lMp
open _root_.List renaming getD_cons_succ → za, getD_cons_zero → zb, length_range → zc, replicate → zd, getElem?_append_right → ze, getElem?_append_left → zf, length_replicate → zg, mem_cons → zh
open _root_.Nat renaming sub_self → zi
attribute [local irreducible] xl hide aop aops aopQ qops guardP condP
abbrev nilS:D:=.v (.slice none 0 0)
abbrev lk0 (g:Gr) (o1 o2 o3:Int):Ob:=lkOb g o1 o2 o3 nilS nilS nilS nilS
def lnJ (g:Gr) (o1 o2 o3:Int) (L:Nat→Bool) (x:St):Prop:=
  ∃ (zs:List Ob) (dP dN:D),x.om=lkOb g o1 o2 o3 dP dN nilS nilS :: boxK g :: boxD g :: boxF :: zs ∧
    (L 10=true→L 4=true∧dP=x.env.getD 23 .any)∧(L 10=false→dP=nilS)∧(L 13=true→L 7=true∧dN=x.env.getD 26 .any)∧(L 13=false→dN=nilS) ∧
    ((L 4=false∧L 7=false∧zs=[])∨(L 4=true∧L 7=false∧zs=[bOb (zR g.defs.length)]∧x.env.getD 23 .any=.own 4)∨(L 4=false∧L 7=true∧zs=[bOb (zR g.defs.length)]∧x.env.getD 26 .any=.own 4) ∨
     (L 4=true∧L 7=true∧zs=[bOb (zR g.defs.length),bOb (zR g.defs.length)]∧((x.env.getD 23 .any=.own 4∧x.env.getD 26 .any=.own 5)∨(x.env.getD 23 .any=.own 5∧x.env.getD 26 .any=.own 4))))
theorem lnJ_mono {g:Gr} {o1 o2 o3:Int} {L L':Nat→Bool} {e e':List D} {om:List Ob} (h4:L' 4=L 4) (h7:L' 7=L 7) (h10:L' 10=L 10) (h13:L' 13=L 13) (e23:e'.getD 23 .any=e.getD 23 .any) (e26:e'.getD 26 .any=e.getD 26 .any)
  (h:lnJ g o1 o2 o3 L ⟨e,om⟩):lnJ g o1 o2 o3 L' ⟨e',om⟩:=by
 unfold lnJ at h ⊢
 dsimp only at h ⊢
 rw [h4,h7,h10,h13,e23,e26]
 exact h
def lnV (g:Gr) (i:Nat):D:=
 ([.ref 0 5,.ref 0 5,Defs g.defs,.i g.defs.length,.any,Defs g.defs,.i g.defs.length,.any,.ref 0 5,.ref 0 5,.any,.ref 0 5,.ref 0 6,.any]:List D).getD i .any
def apJ (om0 om1 om2 om3:List Ob) (k m u r v q:Nat) (L:Nat→Bool) (x:St):Prop:=
 (L 4=true→x.env.getD u .any=.own k)∧(L 7=true→L 6=true∧x.env.getD v .any=.sl 1 [[.own m]])∧(L 8=true→L 4=true∧L 7=true) ∧
 ((L 6=false∧L 8=false∧L 11=false∧x.om=om0)∨(L 6=true∧L 8=false∧L 11=false∧x.om=om1∧x.env.getD r .any=.own m) ∨
 (L 6=true∧L 8=true∧L 11=false∧x.om=om2∧x.env.getD q .any=.own (m+1))∨(L 6=true∧L 8=true∧L 11=true∧x.om=om3))
theorem apJ_mono {om0 om1 om2 om3:List Ob} {k m u r v q:Nat} {L L':Nat→Bool} {e e':List D} {om:List Ob} (h4:L' 4=L 4) (h6:L' 6=L 6) (h7:L' 7=L 7) (h8:L' 8=L 8) (h11:L' 11=L 11) (eu:e'.getD u .any=e.getD u .any) (er:e'.getD r .any=e.getD r .any) (ev:e'.getD v .any=e.getD v .any) (eq:e'.getD q .any=e.getD q .any)
  (h:apJ om0 om1 om2 om3 k m u r v q L ⟨e,om⟩):apJ om0 om1 om2 om3 k m u r v q L' ⟨e',om⟩:=by
 unfold apJ at h ⊢
 dsimp only at h ⊢
 rw [h4,h6,h7,h8,h11,eu,er,ev,eq]
 exact h
def lrK (i j:Nat):Nat:=if j=6 then 2 * i+9 else if j=7 then 2 * i+11 else if j≤2 * i+8 then j else 2 * i+10
theorem lrK_6 (i:Nat):lrK i 6=2 * i+9:=rfl
theorem lrK_7 (i:Nat):lrK i 7=2 * i+11:=rfl
theorem lrK_lo {i j:Nat} (h6:j≠6) (h7:j≠7) (h:j≤2 * i+8):lrK i j=j:=by unfold lrK; rw [if_neg h6,if_neg h7,if_pos h]
theorem lrK_hi (i:Nat):lrK i (2 * i+9)=2 * i+10:=by unfold lrK; rw [if_neg (by omega),if_neg (by omega),if_neg (by omega)]
theorem lrK_inj {i a b:Nat} (ha:a<10+2 * i) (hb:b<10+2 * i) (h:lrK i a=lrK i b):a=b:=by
 have cs:∀ a,a<10+2 * i→(a=6∧lrK i a=2 * i+9)∨(a=7∧lrK i a=2 * i+11)∨(a≠6∧a≠7∧a≤2 * i+8∧lrK i a=a)∨(a=2 * i+9∧lrK i a=2 * i+10):=by
  intro a ha
  by_cases h6:a=6
  ·subst h6; exact .inl ⟨rfl,rfl⟩
  by_cases h7:a=7
  ·subst h7; exact .inr (.inl ⟨rfl,rfl⟩)
  by_cases hl:a≤2 * i+8
  ·exact .inr (.inr (.inl ⟨h6,h7,hl,lrK_lo h6 h7 hl⟩))
  ·have:a=2 * i+9:=by omega
   subst this
   exact .inr (.inr (.inr ⟨rfl,lrK_hi i⟩))
 have h1:=cs a ha
 have h2:=cs b hb
 omega
theorem owMv {om:List Ob} {A:Nat→Bool} {ks:List (Option Nat)} {k k' b n:Nat} (h:om[k]? = some (.slc 99 1 (owR b n++[[.own k']]))) (h1:∀ a,a<n→ks[b+2 * a]? = some (some (b+2 * a))) (h2:ks[b+2 * n]? = some (some k')):MvO om A ks (some k) (oOb b (n+1)):=by
 have hl:(owR b n).length=n:=by simp
 have cs:∀ (i:Nat) (r r':List D),(owR b n++[[.own k']])[i]? = some r→(owR b (n+1))[i]? = some r'→∃ x y,r=[.own x]∧r'=[.own y]∧ks[y]? = some (some x):=by
  intro i r r' hr hr'
  have hi:i<n+1:=by have:=(List.getElem?_eq_some_iff.1 hr').1; simpa using this
  rw [ow_get hi] at hr'
  cases hr'
  by_cases hi2:i<n
  ·rw [zf (by omega),ow_get hi2] at hr
   cases hr
   exact ⟨_,_,rfl,rfl,h1 i hi2⟩
  ·have:i=n:=by omega
   subst this
   rw [ze (by omega),hl,zi] at hr
   cases hr
   exact ⟨_,_,rfl,rfl,h2⟩
 refine .slc h (by simp) (fun i r r' hr hr'=>?_) (fun i r r' j d d' hr hr' hd hd'=>?_)
 ·obtain ⟨x,y,rfl,rfl,_⟩:=cs i r r' hr hr'
  rfl
 ·obtain ⟨x,y,rfl,rfl,h⟩:=cs i r r' hr hr'
  match j with
  | 0=>cases hd; cases hd'; exact .own h
  | j+1=>cases hd
def apV (g:Gr) (f:Nat) (i:Nat):D:=
 ([.ref 0 5,.ref 0 5,.ref 0 5,.ref 0 f,.any,.i g.kinds.length,.any,.any,.any,.ref 0 5,.ref 0 f,.any]:List D).getD i .any
section
variable {g:Gr} {o1 o2 o3:Int}
set_option maxHeartbeats 8000000 in
theorem learnC (hd:∀ d∈g.defs,d.2.may g.kinds.length g.defs.length=true) (hl:g.defs.length≤1000000) (hn:g.kinds.length≤1000000) :
  AC Tryz.prog 80 [.ref 0 0] [lk0 g o1 o2 o3] (fun o om=>o=.ret (.tup [])∧om=[lkOb g o1 o2 o3 (Bs (liveR false g.defs)) (Bs (liveR true g.defs)) (Rws (fstR (liveR false g.defs) (liveR true g.defs) g.kinds.length g.defs)) (Rws (shnR (liveR false g.defs) (liveR true g.defs) g.kinds.length (fstR (liveR false g.defs) (liveR true g.defs) g.kinds.length g.defs) g.defs))]):=by
 have hb:(g.defs.length:Int)≤281474976710656:=by omega
 have hb0:(0:Int)≤g.defs.length:=by omega
 have hb1:(g.kinds.length:Int)≤281474976710656:=by omega
 have hb2:(0:Int)≤g.kinds.length:=by omega
 refine AC.lbody hT hm Tryz.func80 f80_nm f80_lc f80_res f80_nt ?_
 simp only [go_sem,iEq,iLE,iLT,iTN,lMp,ne_eq,reduceCtorEq,not_false_eq_true,implies_true]
 refine ⟨⟨_,_,rfl,rfl,rfl⟩,?_⟩
 refine free_genJ (lnV g) [2,3,4] [4,7,10,13] (lnJ g o1 o2 o3) (by rfl) ⟨[],_,_,rfl,fun h=>(by cases h),fun _=>rfl,fun h=>(by cases h),fun _=>rfl,.inl ⟨rfl,rfl,rfl⟩⟩ ?_ ?_ ?_
 ·intro L L' e e' om' hL he hJ
  exact lnJ_mono (hL 4 (by simp)) (hL 7 (by simp)) (hL 10 (by simp)) (hL 13 (by simp)) (he 4 (by simp) 23 rfl) (he 7 (by simp) 26 rfl) hJ
 ·intro i o hio L env' om' hlen hkeep hds hL hdep hJ K' hK1 hK2
  have k3:env'.getD 3 .any=.ref 2 0:=hkeep 3 (by simp)
  have k4:env'.getD 4 .any=.ref 3 0:=hkeep 4 (by simp)
  have hlen':env'.length=64:=hlen
  have hi:i<14:=(List.getElem?_eq_some_iff.1 hio).1
  obtain ⟨zs,dP,dN,j1,j2,j3,j4,j5,j⟩:=hJ
  dsimp only at j1 j2 j4 j
  subst j1
  match i,hi with
  | 0,_=>cases hio; simp only [go_sem,iEq,iLE,iLT,iTN,evD_tmp,k4]; exact hK1 rfl
  | 1,_=>cases hio; simp only [go_sem,iEq,iLE,iLT,iTN,evD_tmp,k4]; exact hK1 rfl
  | 2,_=>cases hio; simp only [go_sem,iEq,iLE,iLT,iTN,evD_tmp,k3]; exact hK1 rfl
  | 3,_=>
   cases hio
   have d:=hdep 2 (by decide) rfl 21 rfl
   simp only [go_sem,iEq,iLE,iLT,iTN,evD_tmp,d,lnV,za,zb,lMp]
   exact hK1 rfl
  | 4,_=>
   cases hio
   have d:=hdep 3 (by decide) rfl 22 rfl
   simp only [go_sem,iEq,iLE,iLT,iTN,evD_tmp,d,lnV,za,zb,lMp,hb,hb0]
   refine ⟨by omega,by omega,?_⟩
   rw [boR_rep]
   have j10:L 10=false:=by
    cases h:L 10 with
    | false=>rfl
    | true=>rw [(j2 h).1] at hL; cases hL
   rcases j with ⟨a,b,rfl⟩ | ⟨a,_⟩ | ⟨a,b,rfl,c⟩ | ⟨a,_⟩
   ·refine hK2 rfl _ (by simp [hlen']) (fun k hk=>getD_setN fun e=>hk (by rw [← e]; rfl)) ⟨_,dP,dN,rfl,fun h=>(by rw [show L 10=true from h] at j10; cases j10),j3,fun h=>⟨(j4 h).1,(j4 h).2.trans (getD_setN (by omega)).symm⟩,j5,.inr (.inl ⟨rfl,b,rfl,getD_setS (by omega)⟩)⟩
   ·rw [a] at hL; cases hL
   ·refine hK2 rfl _ (by simp [hlen']) (fun k hk=>getD_setN fun e=>hk (by rw [← e]; rfl)) ⟨_,dP,dN,rfl,fun h=>(by rw [show L 10=true from h] at j10; cases j10),j3,fun h=>⟨(j4 h).1,(j4 h).2.trans (getD_setN (by omega)).symm⟩,j5,.inr (.inr (.inr ⟨rfl,b,rfl,.inr ⟨getD_setS (by omega),(getD_setN (by omega)).trans c⟩⟩))⟩
   ·rw [a] at hL; cases hL
  | 5,_=>cases hio; simp only [go_sem,iEq,iLE,iLT,iTN,evD_tmp,k3]; exact hK1 rfl
  | 6,_=>
   cases hio
   have d:=hdep 5 (by decide) rfl 24 rfl
   simp only [go_sem,iEq,iLE,iLT,iTN,evD_tmp,d,lnV,za,zb,lMp]
   exact hK1 rfl
  | 7,_=>
   cases hio
   have d:=hdep 6 (by decide) rfl 25 rfl
   simp only [go_sem,iEq,iLE,iLT,iTN,evD_tmp,d,lnV,za,zb,lMp,hb,hb0]
   refine ⟨by omega,by omega,?_⟩
   rw [boR_rep]
   have j13:L 13=false:=by
    cases h:L 13 with
    | false=>rfl
    | true=>rw [(j4 h).1] at hL; cases hL
   rcases j with ⟨a,b,rfl⟩ | ⟨a,b,rfl,c⟩ | ⟨a,b,_⟩ | ⟨a,b,_⟩
   ·refine hK2 rfl _ (by simp [hlen']) (fun k hk=>getD_setN fun e=>hk (by rw [← e]; rfl)) ⟨_,dP,dN,rfl,fun h=>⟨(j2 h).1,(j2 h).2.trans (getD_setN (by omega)).symm⟩,j3,fun h=>(by rw [show L 13=true from h] at j13; cases j13),j5,.inr (.inr (.inl ⟨a,rfl,rfl,getD_setS (by omega)⟩))⟩
   ·refine hK2 rfl _ (by simp [hlen']) (fun k hk=>getD_setN fun e=>hk (by rw [← e]; rfl)) ⟨_,dP,dN,rfl,fun h=>⟨(j2 h).1,(j2 h).2.trans (getD_setN (by omega)).symm⟩,j3,fun h=>(by rw [show L 13=true from h] at j13; cases j13),j5,.inr (.inr (.inr ⟨a,rfl,rfl,.inl ⟨(getD_setN (by omega)).trans c,getD_setS (by omega)⟩⟩))⟩
   ·rw [b] at hL; cases hL
   ·rw [b] at hL; cases hL
  | 8,_=>
   cases hio
   have d:=hdep 0 (by decide) rfl 19 rfl
   simp only [go_sem,iEq,iLE,iLT,iTN,evD_tmp,d,lnV,za,zb]
   exact hK1 rfl
  | 9,_=>
   cases hio
   have d:=hdep 8 (by decide) rfl 27 rfl
   simp only [go_sem,iEq,iLE,iLT,iTN,evD_tmp,d,lnV,za,zb]
   exact hK1 rfl
  | 10,_=>
   cases hio
   have h4:L 4=true:=hds 4 (by decide)
   have d:=hdep 9 (by decide) rfl 28 rfl
   rcases j with ⟨a,_⟩ | ⟨a,b,rfl,c⟩ | ⟨a,_⟩ | ⟨a,b,rfl,⟨c,e⟩ | ⟨c,e⟩⟩
   ·rw [a] at h4; cases h4
   ·simp only [go_sem,iEq,iLE,iLT,iTN,evD_tmp,d,c,lnV,za,zb]
    exact hK2 rfl _ hlen' (fun k hk=>rfl) ⟨_,_,dN,rfl,fun _=>⟨a,c.symm⟩,fun h=>(by cases h),j4,j5,.inr (.inl ⟨a,b,rfl,c⟩)⟩
   ·rw [a] at h4; cases h4
   ·simp only [go_sem,iEq,iLE,iLT,iTN,evD_tmp,d,c,lnV,za,zb]
    exact hK2 rfl _ hlen' (fun k hk=>rfl) ⟨_,_,dN,rfl,fun _=>⟨a,c.symm⟩,fun h=>(by cases h),j4,j5,.inr (.inr (.inr ⟨a,b,rfl,.inl ⟨c,e⟩⟩))⟩
   ·simp only [go_sem,iEq,iLE,iLT,iTN,evD_tmp,d,c,lnV,za,zb]
    exact hK2 rfl _ hlen' (fun k hk=>rfl) ⟨_,_,dN,rfl,fun _=>⟨a,c.symm⟩,fun h=>(by cases h),j4,j5,.inr (.inr (.inr ⟨a,b,rfl,.inr ⟨c,e⟩⟩))⟩
  | 11,_=>
   cases hio
   have d:=hdep 1 (by decide) rfl 20 rfl
   simp only [go_sem,iEq,iLE,iLT,iTN,evD_tmp,d,lnV,za,zb]
   exact hK1 rfl
  | 12,_=>
   cases hio
   have d:=hdep 11 (by decide) rfl 29 rfl
   simp only [go_sem,iEq,iLE,iLT,iTN,evD_tmp,d,lnV,za,zb]
   exact hK1 rfl
  | 13,_=>
   cases hio
   have h7:L 7=true:=hds 7 (by decide)
   have d:=hdep 12 (by decide) rfl 30 rfl
   rcases j with ⟨_,a,_⟩ | ⟨_,a,_⟩ | ⟨a,b,rfl,c⟩ | ⟨a,b,rfl,⟨c,e⟩ | ⟨c,e⟩⟩
   ·rw [a] at h7; cases h7
   ·rw [a] at h7; cases h7
   ·simp only [go_sem,iEq,iLE,iLT,iTN,evD_tmp,d,c,lnV,za,zb]
    exact hK2 rfl _ hlen' (fun k hk=>rfl) ⟨_,dP,_,rfl,j2,j3,fun _=>⟨b,c.symm⟩,fun h=>(by cases h),.inr (.inr (.inl ⟨a,b,rfl,c⟩))⟩
   ·simp only [go_sem,iEq,iLE,iLT,iTN,evD_tmp,d,e,lnV,za,zb]
    exact hK2 rfl _ hlen' (fun k hk=>rfl) ⟨_,dP,_,rfl,j2,j3,fun _=>⟨b,e.symm⟩,fun h=>(by cases h),.inr (.inr (.inr ⟨a,b,rfl,.inl ⟨c,e⟩⟩))⟩
   ·simp only [go_sem,iEq,iLE,iLT,iTN,evD_tmp,d,e,lnV,za,zb]
    exact hK2 rfl _ hlen' (fun k hk=>rfl) ⟨_,dP,_,rfl,j2,j3,fun _=>⟨b,e.symm⟩,fun h=>(by cases h),.inr (.inr (.inr ⟨a,b,rfl,.inr ⟨c,e⟩⟩))⟩
  | i+14,hi=>exact absurd hi (by omega)
 intro L env' om' hall hlen hkeep hV hJ
 have k2:env'.getD 2 .any=.ref 1 0:=hkeep 2 (by simp)
 have k3:env'.getD 3 .any=.ref 2 0:=hkeep 3 (by simp)
 have k4:env'.getD 4 .any=.ref 3 0:=hkeep 4 (by simp)
 have hlen':env'.length=64:=hlen
 have hall':∀ i,i<14→L i=true:=hall
 have h4:=hall' 4 (by omega)
 have h7:=hall' 7 (by omega)
 have h10:=hall' 10 (by omega)
 have h13:=hall' 13 (by omega)
 have hom:∃ a b,((a=4∧b=5)∨(a=5∧b=4))∧om'=[lkOb g o1 o2 o3 (.own a) (.own b) nilS nilS,boxK g,boxD g,boxF,bOb (zR g.defs.length),bOb (zR g.defs.length)]:=by
  obtain ⟨zs,dP,dN,j1,j2,j3,j4,j5,j⟩:=hJ
  dsimp only at j1 j2 j4 j
  rcases j with ⟨a,_⟩ | ⟨_,a,_⟩ | ⟨a,_⟩ | ⟨_,_,rfl,⟨c,e⟩ | ⟨c,e⟩⟩
  ·rw [h4] at a; cases a
  ·rw [h7] at a; cases a
  ·rw [h4] at a; cases a
  ·exact ⟨4,5,.inl ⟨rfl,rfl⟩,by rw [j1,(j2 h10).2,(j4 h13).2,c,e]⟩
  ·exact ⟨5,4,.inr ⟨rfl,rfl⟩,by rw [j1,(j2 h10).2,(j4 h13).2,c,e]⟩
 clear hJ
 obtain ⟨a,b,hab,rfl⟩:=hom
 have s31:∀ d:D,(env'.set 31 d).getD 31 .any=d:=fun d=>getD_setS (by omega)
 simp only [go_sem,iEq,iLE,iLT,iTN,evD_tmp,k2,k3,k4,s31,lMp]
 refine xl_loopM hT hm (fun i:Nat=>⟨f80_i8 (.ref 1 0) (.ref 2 0) (.ref 3 0) (.i g.defs.length) (.i i),om8 g o1 o2 o3 (zR g.defs.length) (zR g.defs.length) (zd i (zR g.kinds.length)) (zd i (zR g.kinds.length))⟩)
  (fun i=>i≤g.defs.length) (fun i=>g.defs.length - i) 0 (Nat.zero_le _) ?_ ?_
 ·refine Mv.perm (n:=8) (fun j=>if j=4 then some a else if j=5 then some b else if j<6 then some j else none) ?_ ?_ rfl ?_ (by simp [hlen',f80_i8]) ?_
  ·have:∀ i<8,∀ j<8,(if i=4 then some a else if i=5 then some b else if i<6 then some i else none)=(if j=4 then some a else if j=5 then some b else if j<6 then some j else none)→(if i=4 then some a else if i=5 then some b else if i<6 then some i else none)≠none→i=j:=by
    rcases hab with ⟨rfl,rfl⟩ | ⟨rfl,rfl⟩ <;> decide
   intro i j k hi hj h1 h2
   exact this i hi j hj (h1.trans h2.symm) (by rw [h1]; exact fun h=>by cases h)
  ·intro j hj
   have:j=0:=by omega
   subst this
   exact ⟨by omega,rfl⟩
  ·intro ks hk j o ho
   have h4:=hk 4 (by omega)
   have h5:=hk 5 (by omega)
   have h6:=hk 6 (by omega)
   have h7:=hk 7 (by omega)
   have h0:=hk 0 (by omega)
   match j with
   | 0=>cases ho; exact .var rfl rfl (CvL.get (om:=_) ⟨.same (Strs_bl _),.same (Defs_bl _),.v,.v,.v,.own h4,.own h5,.nilOwn h6,.nilOwn h7,trivial⟩)
   | 1=>cases ho; exact .var rfl rfl (CvL.get (om:=_) ⟨.v,trivial⟩)
   | 2=>cases ho; exact .var rfl rfl (CvL.get (om:=_) ⟨.same (Defs_bl _),trivial⟩)
   | 3=>cases ho; exact .var rfl rfl (CvL.get (om:=_) ⟨.ref h0,trivial⟩)
   | 4=>cases ho; rcases hab with ⟨rfl,rfl⟩ | ⟨rfl,rfl⟩ <;> exact .slcS rfl (boR_bl _)
   | 5=>cases ho; rcases hab with ⟨rfl,rfl⟩ | ⟨rfl,rfl⟩ <;> exact .slcS rfl (boR_bl _)
   | 6=>cases ho; exact .nil Nat.zero_lt_one
   | 7=>cases ho; exact .nil Nat.zero_lt_one
   | j+8=>cases ho
  ·intro ks hk
   refine slots (live:=[2,3,4,32,33]) rfl ?_
   intro t ht
   simp only [zh,List.not_mem_nil,or_false] at ht
   rcases ht with rfl | rfl | rfl | rfl | rfl
   ·rw [(getD_setN (by omega)).trans ((getD_setN (by omega)).trans ((getD_setN (by omega)).trans k2))]; exact .ref (hk 1 (by omega))
   ·rw [(getD_setN (by omega)).trans ((getD_setN (by omega)).trans ((getD_setN (by omega)).trans k3))]; exact .ref (hk 2 (by omega))
   ·rw [(getD_setN (by omega)).trans ((getD_setN (by omega)).trans ((getD_setN (by omega)).trans k4))]; exact .ref (hk 3 (by omega))
   ·rw [(getD_setN (by omega)).trans (getD_setS (by simp [hlen']))]; exact .v
   ·rw [getD_setS (by simp [hlen'])]; exact .v
 clear hV hall hall' h4 h7 h10 h13 s31 k2 k3 k4 hkeep hlen hlen' hab
 intro i hi
 simp only [go_sem,iEq,iLE,iLT,iTN]
 by_cases hiq:i<g.defs.length
 case neg=>
  have t2:i=g.defs.length:=by omega
  subst t2
  simp only [go_sem,iEq,iLE,iLT,iTN,hiq]
  have hlR:(rwL (zd g.defs.length (zR g.kinds.length)) (zd g.defs.length (zR g.kinds.length))).length=2 * g.defs.length:=by rw [rwL_len (by simp)]; simp
  refine ⟨_,settle1 (dF:=.own 6) (dS:=.own 7) hd (oOb 8 (zd g.defs.length (zR g.kinds.length)).length :: oOb 9 (zd g.defs.length (zR g.kinds.length)).length :: rwL (zd g.defs.length (zR g.kinds.length)) (zd g.defs.length (zR g.kinds.length))) hl (.own (by simp)) (.own (by simp)) ?_,?_⟩
  ·intro o ho
   simp only [zh] at ho
   rcases ho with rfl | rfl | ho
   ·exact ow_bl (by simp only [List.length_cons,hlR,zg]; omega)
   ·exact ow_bl (by simp only [List.length_cons,hlR,zg]; omega)
   ·exact rwL_bl _ _ _ o ho
  rintro _ _ ⟨rfl,rfl⟩
  simp only [go_sem,iEq,iLE,iLT,iTN]
  have hLP:=liveR_len false g.defs
  have hLN:=liveR_len true g.defs
  generalize liveR false g.defs=P at hLP ⊢
  generalize liveR true g.defs=N at hLN ⊢
  refine ⟨_,settle2 hd P N _ hLP hLN (by simp) (rep_ok _ _) hl hn,?_⟩
  rintro _ _ ⟨rfl,rfl⟩
  simp only [go_sem,iEq,iLE,iLT,iTN]
  have hLF:=fstR_len P N g.kinds.length g.defs
  have hOF:=fstR_ok P N g.kinds.length g.defs
  generalize fstR P N g.kinds.length g.defs=F at hLF hOF ⊢
  refine ⟨_,settle3 hd P N F hLP hLN hLF hOF hl hn,?_⟩
  rintro _ _ ⟨rfl,rfl⟩
  simp only [go_sem,iEq,iLE,iLT,iTN]
  have hLS:=shnR_len P N g.kinds.length F g.defs
  generalize shnR P N g.kinds.length F g.defs=S at hLS ⊢
  refine Fin.mv (om':=[lkOb g o1 o2 o3 (Bs P) (Bs N) (Rws F) (Rws S)]) [some 0] rfl ⟨.var rfl rfl (CvL.get (om:=_) ⟨.same (Strs_bl _),.same (Defs_bl _),.v,.v,.v,.frzS rfl rfl (boR_bl _),.frzS rfl rfl (boR_bl _),?_,?_,trivial⟩),trivial⟩ (.same (.tup (by simp))) ⟨rfl,rfl⟩
  ·exact rowsF_lend rfl rfl (fun i=>by simp [kF]) (fun i f hf=>by have:=om8_F (g:=g) (o1:=o1) (o2:=o2) (o3:=o3) (P:=P) (N:=N) (Y:=[]) (hLF.trans hLS.symm) hf; rw [List.append_nil] at this; exact this)
  ·exact rowsF_lend rfl rfl (fun i=>by simp [kF]) (fun i f hf=>by have:=om8_S (g:=g) (o1:=o1) (o2:=o2) (o3:=o3) (P:=P) (N:=N) (Y:=[]) (hLF.trans hLS.symm) hf; rw [List.append_nil] at this; exact this)
 have hrw:rwL (zd i (zR g.kinds.length)) (zd i (zR g.kinds.length))=zd (2 * i) (bOb (zR g.kinds.length)):=rwL_rep i
 simp only [go_sem,iEq,iLE,iLT,iTN,hiq,hrw,zg]
 have hR:(zd (2 * i) (bOb (zR g.kinds.length))).length=2 * i:=by simp
 have hRz:∀ (j:Nat) (o:Ob),(zd (2 * i) (bOb (zR g.kinds.length)))[j]? = some o→o=bOb (zR g.kinds.length):=fun j o h=>List.eq_of_mem_replicate (List.mem_of_getElem? h)
 generalize zd (2 * i) (bOb (zR g.kinds.length))=R at hR hRz ⊢
 have hbr:(i+1) * 24≤140737488355328:=by omega
 refine free_genJ (apV g 7) [2,3,4,32,33] [4,6,7,8,11] (apJ (lkOb g o1 o2 o3 (.own 4) (.own 5) (.own 6) (.own 7) :: boxK g :: boxD g :: boxF :: bOb (zR g.defs.length) :: bOb (zR g.defs.length) :: oOb 8 i :: oOb 9 i :: R) (lkOb g o1 o2 o3 (.own 4) (.own 5) (.own 6) (.own 7) :: boxK g :: boxD g :: boxF :: bOb (zR g.defs.length) :: bOb (zR g.defs.length) :: oOb 8 i :: oOb 9 i :: (R++[bOb (zR g.kinds.length)])) (lkOb g o1 o2 o3 (.own 4) (.own 5) (.own 6) (.own 7) :: boxK g :: boxD g :: boxF :: bOb (zR g.defs.length) :: bOb (zR g.defs.length) :: .dead :: oOb 9 i :: (R++[bOb (zR g.kinds.length),.slc 99 1 (owR 8 i++[[.own (R.length+8)]])])) (lkOb g o1 o2 o3 (.own 4) (.own 5) (.own (R.length+8+1)) (.own 7) :: boxK g :: boxD g :: boxF :: bOb (zR g.defs.length) :: bOb (zR g.defs.length) :: .dead :: oOb 9 i :: (R++[bOb (zR g.kinds.length),.slc 99 1 (owR 8 i++[[.own (R.length+8)]])])) 6 (R.length+8) 39 41 42 43) (by rfl) ⟨fun h=>(by cases h),fun h=>(by cases h),fun h=>(by cases h),.inl ⟨rfl,rfl,rfl,rfl⟩⟩ ?_ ?_ ?_
 ·intro L L' e e' om' hL he hJ
  exact apJ_mono (hL 4 (by simp)) (hL 6 (by simp)) (hL 7 (by simp)) (hL 8 (by simp)) (hL 11 (by simp)) (he 4 (by simp) 39 rfl) (he 6 (by simp) 41 rfl) (he 7 (by simp) 42 rfl) (he 8 (by simp) 43 rfl) hJ
 ·intro j o hio L env' om' hlen hkeep hds hL hdep hJ K' hK1 hK2
  have k2:env'.getD 2 .any=.ref 1 0:=hkeep 2 (by simp)
  have k4:env'.getD 4 .any=.ref 3 0:=hkeep 4 (by simp)
  have hlen':env'.length=64:=hlen
  obtain ⟨j4,j7,j8,hJ⟩:=hJ
  dsimp only at j4 j7 hJ
  have hi:j<12:=(List.getElem?_eq_some_iff.1 hio).1
  match j,hi with
  | 0,_=>
   cases hio
   rcases hJ with ⟨a,b,c,rfl⟩ | ⟨a,b,c,rfl,e⟩ | ⟨a,b,c,rfl,e⟩ | ⟨a,b,c,rfl⟩ <;> (simp only [go_sem,iEq,iLE,iLT,iTN,evD_tmp,k2,k4,apV,za,zb,lastG,lastS,hb1,hb2,hbr,lMp,zc]; exact hK1 rfl)
  | 1,_=>
   cases hio
   rcases hJ with ⟨a,b,c,rfl⟩ | ⟨a,b,c,rfl,e⟩ | ⟨a,b,c,rfl,e⟩ | ⟨a,b,c,rfl⟩ <;> (simp only [go_sem,iEq,iLE,iLT,iTN,evD_tmp,k2,k4,apV,za,zb,lastG,lastS,hb1,hb2,hbr,lMp,zc]; exact hK1 rfl)
  | 2,_=>
   cases hio
   have d1:=hdep 1 (by decide) rfl 36 rfl
   simp only [go_sem,iEq,iLE,iLT,iTN,evD_tmp,k2,k4,d1,apV,za,zb,lastG,lastS,hb1,hb2,hbr,lMp,zc]
   exact hK1 rfl
  | 3,_=>
   cases hio
   have d2:=hdep 2 (by decide) rfl 37 rfl
   simp only [go_sem,iEq,iLE,iLT,iTN,evD_tmp,k2,k4,d2,apV,za,zb,lastG,lastS,hb1,hb2,hbr,lMp,zc]
   exact hK1 rfl
  | 4,_=>
   cases hio
   have d3:=hdep 3 (by decide) rfl 38 rfl
   have h8:L 8=false:=by
    cases h:L 8 with
    | false=>rfl
    | true=>rw [(j8 h).1] at hL; cases hL
   rcases hJ with ⟨a,b,c,rfl⟩ | ⟨a,b,c,rfl,e⟩ | ⟨a,b,c,rfl,e⟩ | ⟨a,b,c,rfl⟩
   ·simp only [go_sem,iEq,iLE,iLT,iTN,evD_tmp,k2,k4,d3,apV,za,zb,lastG,lastS,hb1,hb2,hbr,lMp,zc]
    exact hK2 rfl _ (by simp [hlen']) (fun k hk=>getD_setN fun e=>hk (by rw [← e]; rfl)) ⟨fun _=>getD_setS (by omega),fun h=>⟨(j7 h).1,(getD_setN (by omega)).trans (j7 h).2⟩,fun h=>⟨rfl,(j8 h).2⟩,.inl ⟨a,b,c,rfl⟩⟩
   ·simp only [go_sem,iEq,iLE,iLT,iTN,evD_tmp,k2,k4,d3,apV,za,zb,lastG,lastS,hb1,hb2,hbr,lMp,zc]
    exact hK2 rfl _ (by simp [hlen']) (fun k hk=>getD_setN fun e=>hk (by rw [← e]; rfl)) ⟨fun _=>getD_setS (by omega),fun h=>⟨(j7 h).1,(getD_setN (by omega)).trans (j7 h).2⟩,fun h=>⟨rfl,(j8 h).2⟩,.inr (.inl ⟨a,b,c,rfl,(getD_setN (by omega)).trans e⟩)⟩
   ·rw [b] at h8; cases h8
   ·rw [b] at h8; cases h8
  | 5,_=>
   cases hio
   rcases hJ with ⟨a,b,c,rfl⟩ | ⟨a,b,c,rfl,e⟩ | ⟨a,b,c,rfl,e⟩ | ⟨a,b,c,rfl⟩ <;> (simp only [go_sem,iEq,iLE,iLT,iTN,evD_tmp,k2,k4,apV,za,zb,lastG,lastS,hb1,hb2,hbr,lMp,zc]; exact hK1 rfl)
  | 6,_=>
   cases hio
   have d5:=hdep 5 (by decide) rfl 40 rfl
   have h7:L 7=false:=by
    cases h:L 7 with
    | false=>rfl
    | true=>rw [(j7 h).1] at hL; cases hL
   rcases hJ with ⟨a,b,c,rfl⟩ | ⟨a,b,c,rfl,e⟩ | ⟨a,b,c,rfl,e⟩ | ⟨a,b,c,rfl⟩
   ·simp only [go_sem,iEq,iLE,iLT,iTN,evD_tmp,k2,k4,d5,apV,za,zb,lastG,lastS,hb1,hb2,hbr,lMp,zc]
    refine ⟨by omega,by omega,?_⟩
    rw [boR_rep]
    exact hK2 rfl _ (by simp [hlen']) (fun k hk=>getD_setN fun e=>hk (by rw [← e]; rfl)) ⟨fun h=>(getD_setN (by omega)).trans (j4 h),fun h=>(by rw [show L 7=true from h] at h7; cases h7),j8,.inr (.inl ⟨rfl,b,c,rfl,getD_setS (by omega)⟩)⟩
   ·rw [a] at hL; cases hL
   ·rw [a] at hL; cases hL
   ·rw [a] at hL; cases hL
  | 7,_=>
   cases hio
   have h6:L 6=true:=hds 6 (by decide)
   have h8:L 8=false:=by
    cases h:L 8 with
    | false=>rfl
    | true=>rw [(j8 h).2] at hL; cases hL
   rcases hJ with ⟨a,b,c,rfl⟩ | ⟨a,b,c,rfl,e⟩ | ⟨a,b,c,rfl,e⟩ | ⟨a,b,c,rfl⟩
   ·rw [a] at h6; cases h6
   ·simp only [go_sem,iEq,iLE,iLT,iTN,evD_tmp,k2,k4,e,apV,za,zb,lastG,lastS,hb1,hb2,hbr,lMp,zc]
    exact hK2 rfl _ (by simp [hlen']) (fun k hk=>getD_setN fun e=>hk (by rw [← e]; rfl)) ⟨fun h=>(getD_setN (by omega)).trans (j4 h),fun _=>⟨a,getD_setS (by omega)⟩,fun h=>⟨(j8 h).1,rfl⟩,.inr (.inl ⟨a,b,c,rfl,(getD_setN (by omega)).trans e⟩)⟩
   ·rw [b] at h8; cases h8
   ·rw [b] at h8; cases h8
  | 8,_=>
   cases hio
   have h4:L 4=true:=hds 4 (by decide)
   have h7:L 7=true:=hds 7 (by decide)
   have d4:=j4 h4
   have d7:=(j7 h7).2
   rcases hJ with ⟨a,b,c,rfl⟩ | ⟨a,b,c,rfl,e⟩ | ⟨a,b,c,rfl,e⟩ | ⟨a,b,c,rfl⟩
   ·rw [(j7 h7).1] at a; cases a
   ·simp only [go_sem,iEq,iLE,iLT,iTN,evD_tmp,k2,k4,d4,d7,apV,za,zb,lastG,lastS,hb1,hb2,hbr,lMp,zc]
    exact hK2 rfl _ (by simp [hlen']) (fun k hk=>getD_setN fun e=>hk (by rw [← e]; rfl)) ⟨fun h=>(getD_setN (by omega)).trans (j4 h),fun h=>⟨(j7 h).1,(getD_setN (by omega)).trans (j7 h).2⟩,fun _=>⟨h4,h7⟩,.inr (.inr (.inl ⟨a,rfl,c,rfl,getD_setS (by omega)⟩))⟩
   ·rw [b] at hL; cases hL
   ·rw [b] at hL; cases hL
  | 9,_=>
   cases hio
   have d0:=hdep 0 (by decide) rfl 35 rfl
   simp only [go_sem,iEq,iLE,iLT,iTN,evD_tmp,k2,k4,d0,apV,za,zb,lastG,lastS,hb1,hb2,hbr,lMp,zc]
   exact hK1 rfl
  | 10,_=>
   cases hio
   have d9:=hdep 9 (by decide) rfl 44 rfl
   simp only [go_sem,iEq,iLE,iLT,iTN,evD_tmp,k2,k4,d9,apV,za,zb,lastG,lastS,hb1,hb2,hbr,lMp,zc]
   exact hK1 rfl
  | 11,_=>
   cases hio
   have d10:=hdep 10 (by decide) rfl 45 rfl
   have h8:L 8=true:=hds 8 (by decide)
   rcases hJ with ⟨a,b,c,rfl⟩ | ⟨a,b,c,rfl,e⟩ | ⟨a,b,c,rfl,e⟩ | ⟨a,b,c,rfl⟩
   ·rw [b] at h8; cases h8
   ·rw [b] at h8; cases h8
   ·simp only [go_sem,iEq,iLE,iLT,iTN,evD_tmp,k2,k4,d10,e,apV,za,zb,lastG,lastS,hb1,hb2,hbr,lMp,zc]
    exact hK2 rfl _ hlen (fun k hk=>rfl) ⟨j4,j7,j8,.inr (.inr (.inr ⟨a,b,rfl,rfl⟩))⟩
   ·rw [c] at hL; cases hL
  | j+12,hi=>exact absurd hi (by omega)
 intro L5 env5 om5 hall hlen hkeep hV hJ
 have hall':∀ i,i<12→L5 i=true:=hall
 have h11:=hall' 11 (by omega)
 dsimp only [apJ] at hJ
 obtain ⟨_,_,_,⟨a,b,c,rfl⟩ | ⟨a,b,c,rfl,e⟩ | ⟨a,b,c,rfl,e⟩ | ⟨a,b,c,rfl⟩⟩:=hJ
 ·rw [c] at h11; cases h11
 ·rw [c] at h11; cases h11
 ·rw [c] at h11; cases h11
 clear hall hall' hV a b c h11
 have q2:env5.getD 2 .any=.ref 1 0:=hkeep 2 (by simp)
 have q3:env5.getD 3 .any=.ref 2 0:=hkeep 3 (by simp)
 have q4:env5.getD 4 .any=.ref 3 0:=hkeep 4 (by simp)
 have q32:env5.getD 32 .any=.i g.defs.length:=hkeep 32 (by simp)
 have q33:env5.getD 33 .any=.i i:=hkeep 33 (by simp)
 have qlen:env5.length=64:=hlen
 clear hkeep hlen
 simp only [go_sem,iEq,iLE,iLT,iTN]
 have e8:owR 8 i++[[D.own (R.length+8)]]=owR 8 (i+1):=by rw [ow_app,hR,Nat.add_comm 8]
 rw [e8,hR]
 have hR2:(R++[bOb (zR g.kinds.length),oOb 8 (i+1)]).length=2 * i+2:=by simp [hR]
 have g0:∀ j,j≤2 * i→(R++[bOb (zR g.kinds.length),oOb 8 (i+1)])[j]? = some (bOb (zR g.kinds.length)):=by
  intro j hj
  by_cases hj2:j<2 * i
  ·rw [zf (by omega)]
   obtain ⟨o,ho⟩:=get_ex (l:=R) (show j<R.length by omega)
   rw [ho,hRz j o ho]
  ·have:j=2 * i:=by omega
   subst this
   rw [ze (by omega),hR,zi]; rfl
 have g2:(R++[bOb (zR g.kinds.length),oOb 8 (i+1)])[2 * i+1]? = some (oOb 8 (i+1)):=by
  rw [ze (by omega),hR,show 2 * i+1 - 2 * i=1 by omega]; rfl
 generalize R++[bOb (zR g.kinds.length),oOb 8 (i+1)]=R2 at hR2 g0 g2 ⊢
 refine free_genJ (apV g 8) [2,3,4,32,33] [4,6,7,8,11] (apJ (lkOb g o1 o2 o3 (.own 4) (.own 5) (.own (2 * i+8+1)) (.own 7) :: boxK g :: boxD g :: boxF :: bOb (zR g.defs.length) :: bOb (zR g.defs.length) :: .dead :: oOb 9 i :: R2) (lkOb g o1 o2 o3 (.own 4) (.own 5) (.own (2 * i+8+1)) (.own 7) :: boxK g :: boxD g :: boxF :: bOb (zR g.defs.length) :: bOb (zR g.defs.length) :: .dead :: oOb 9 i :: (R2++[bOb (zR g.kinds.length)])) (lkOb g o1 o2 o3 (.own 4) (.own 5) (.own (2 * i+8+1)) (.own 7) :: boxK g :: boxD g :: boxF :: bOb (zR g.defs.length) :: bOb (zR g.defs.length) :: .dead :: .dead :: (R2++[bOb (zR g.kinds.length),.slc 99 1 (owR 9 i++[[.own (R2.length+8)]])])) (lkOb g o1 o2 o3 (.own 4) (.own 5) (.own (2 * i+8+1)) (.own (R2.length+8+1)) :: boxK g :: boxD g :: boxF :: bOb (zR g.defs.length) :: bOb (zR g.defs.length) :: .dead :: .dead :: (R2++[bOb (zR g.kinds.length),.slc 99 1 (owR 9 i++[[.own (R2.length+8)]])])) 7 (R2.length+8) 50 52 53 54) (by rw [qlen]; rfl) ⟨fun h=>(by cases h),fun h=>(by cases h),fun h=>(by cases h),.inl ⟨rfl,rfl,rfl,rfl⟩⟩ ?_ ?_ ?_
 ·intro L L' e e' om' hL he hJ
  exact apJ_mono (hL 4 (by simp)) (hL 6 (by simp)) (hL 7 (by simp)) (hL 8 (by simp)) (hL 11 (by simp)) (he 4 (by simp) 50 rfl) (he 6 (by simp) 52 rfl) (he 7 (by simp) 53 rfl) (he 8 (by simp) 54 rfl) hJ
 ·intro j o hio L env' om' hlen hkeep hds hL hdep hJ K' hK1 hK2
  have k2:env'.getD 2 .any=.ref 1 0:=(hkeep 2 (by simp)).trans q2
  have k4:env'.getD 4 .any=.ref 3 0:=(hkeep 4 (by simp)).trans q4
  have hlen':env'.length=64:=hlen.trans qlen
  obtain ⟨j4,j7,j8,hJ⟩:=hJ
  dsimp only at j4 j7 hJ
  have hi:j<12:=(List.getElem?_eq_some_iff.1 hio).1
  match j,hi with
  | 0,_=>
   cases hio
   rcases hJ with ⟨a,b,c,rfl⟩ | ⟨a,b,c,rfl,e⟩ | ⟨a,b,c,rfl,e⟩ | ⟨a,b,c,rfl⟩ <;> (simp only [go_sem,iEq,iLE,iLT,iTN,evD_tmp,k2,k4,apV,za,zb,lastG,lastS,hb1,hb2,hbr,lMp,zc]; exact hK1 rfl)
  | 1,_=>
   cases hio
   rcases hJ with ⟨a,b,c,rfl⟩ | ⟨a,b,c,rfl,e⟩ | ⟨a,b,c,rfl,e⟩ | ⟨a,b,c,rfl⟩ <;> (simp only [go_sem,iEq,iLE,iLT,iTN,evD_tmp,k2,k4,apV,za,zb,lastG,lastS,hb1,hb2,hbr,lMp,zc]; exact hK1 rfl)
  | 2,_=>
   cases hio
   have d1:=hdep 1 (by decide) rfl 47 rfl
   simp only [go_sem,iEq,iLE,iLT,iTN,evD_tmp,k2,k4,d1,apV,za,zb,lastG,lastS,hb1,hb2,hbr,lMp,zc]
   exact hK1 rfl
  | 3,_=>
   cases hio
   have d2:=hdep 2 (by decide) rfl 48 rfl
   simp only [go_sem,iEq,iLE,iLT,iTN,evD_tmp,k2,k4,d2,apV,za,zb,lastG,lastS,hb1,hb2,hbr,lMp,zc]
   exact hK1 rfl
  | 4,_=>
   cases hio
   have d3:=hdep 3 (by decide) rfl 49 rfl
   have h8:L 8=false:=by
    cases h:L 8 with
    | false=>rfl
    | true=>rw [(j8 h).1] at hL; cases hL
   rcases hJ with ⟨a,b,c,rfl⟩ | ⟨a,b,c,rfl,e⟩ | ⟨a,b,c,rfl,e⟩ | ⟨a,b,c,rfl⟩
   ·simp only [go_sem,iEq,iLE,iLT,iTN,evD_tmp,k2,k4,d3,apV,za,zb,lastG,lastS,hb1,hb2,hbr,lMp,zc]
    exact hK2 rfl _ (by simp [hlen',qlen]) (fun k hk=>getD_setN fun e=>hk (by rw [← e]; rfl)) ⟨fun _=>getD_setS (by omega),fun h=>⟨(j7 h).1,(getD_setN (by omega)).trans (j7 h).2⟩,fun h=>⟨rfl,(j8 h).2⟩,.inl ⟨a,b,c,rfl⟩⟩
   ·simp only [go_sem,iEq,iLE,iLT,iTN,evD_tmp,k2,k4,d3,apV,za,zb,lastG,lastS,hb1,hb2,hbr,lMp,zc]
    exact hK2 rfl _ (by simp [hlen',qlen]) (fun k hk=>getD_setN fun e=>hk (by rw [← e]; rfl)) ⟨fun _=>getD_setS (by omega),fun h=>⟨(j7 h).1,(getD_setN (by omega)).trans (j7 h).2⟩,fun h=>⟨rfl,(j8 h).2⟩,.inr (.inl ⟨a,b,c,rfl,(getD_setN (by omega)).trans e⟩)⟩
   ·rw [b] at h8; cases h8
   ·rw [b] at h8; cases h8
  | 5,_=>
   cases hio
   rcases hJ with ⟨a,b,c,rfl⟩ | ⟨a,b,c,rfl,e⟩ | ⟨a,b,c,rfl,e⟩ | ⟨a,b,c,rfl⟩ <;> (simp only [go_sem,iEq,iLE,iLT,iTN,evD_tmp,k2,k4,apV,za,zb,lastG,lastS,hb1,hb2,hbr,lMp,zc]; exact hK1 rfl)
  | 6,_=>
   cases hio
   have d5:=hdep 5 (by decide) rfl 51 rfl
   have h7:L 7=false:=by
    cases h:L 7 with
    | false=>rfl
    | true=>rw [(j7 h).1] at hL; cases hL
   rcases hJ with ⟨a,b,c,rfl⟩ | ⟨a,b,c,rfl,e⟩ | ⟨a,b,c,rfl,e⟩ | ⟨a,b,c,rfl⟩
   ·simp only [go_sem,iEq,iLE,iLT,iTN,evD_tmp,k2,k4,d5,apV,za,zb,lastG,lastS,hb1,hb2,hbr,lMp,zc]
    refine ⟨by omega,by omega,?_⟩
    rw [boR_rep]
    exact hK2 rfl _ (by simp [hlen',qlen]) (fun k hk=>getD_setN fun e=>hk (by rw [← e]; rfl)) ⟨fun h=>(getD_setN (by omega)).trans (j4 h),fun h=>(by rw [show L 7=true from h] at h7; cases h7),j8,.inr (.inl ⟨rfl,b,c,rfl,getD_setS (by omega)⟩)⟩
   ·rw [a] at hL; cases hL
   ·rw [a] at hL; cases hL
   ·rw [a] at hL; cases hL
  | 7,_=>
   cases hio
   have h6:L 6=true:=hds 6 (by decide)
   have h8:L 8=false:=by
    cases h:L 8 with
    | false=>rfl
    | true=>rw [(j8 h).2] at hL; cases hL
   rcases hJ with ⟨a,b,c,rfl⟩ | ⟨a,b,c,rfl,e⟩ | ⟨a,b,c,rfl,e⟩ | ⟨a,b,c,rfl⟩
   ·rw [a] at h6; cases h6
   ·simp only [go_sem,iEq,iLE,iLT,iTN,evD_tmp,k2,k4,e,apV,za,zb,lastG,lastS,hb1,hb2,hbr,lMp,zc]
    exact hK2 rfl _ (by simp [hlen',qlen]) (fun k hk=>getD_setN fun e=>hk (by rw [← e]; rfl)) ⟨fun h=>(getD_setN (by omega)).trans (j4 h),fun _=>⟨a,getD_setS (by omega)⟩,fun h=>⟨(j8 h).1,rfl⟩,.inr (.inl ⟨a,b,c,rfl,(getD_setN (by omega)).trans e⟩)⟩
   ·rw [b] at h8; cases h8
   ·rw [b] at h8; cases h8
  | 8,_=>
   cases hio
   have h4:L 4=true:=hds 4 (by decide)
   have h7:L 7=true:=hds 7 (by decide)
   have d4:=j4 h4
   have d7:=(j7 h7).2
   rcases hJ with ⟨a,b,c,rfl⟩ | ⟨a,b,c,rfl,e⟩ | ⟨a,b,c,rfl,e⟩ | ⟨a,b,c,rfl⟩
   ·rw [(j7 h7).1] at a; cases a
   ·simp only [go_sem,iEq,iLE,iLT,iTN,evD_tmp,k2,k4,d4,d7,apV,za,zb,lastG,lastS,hb1,hb2,hbr,lMp,zc]
    exact hK2 rfl _ (by simp [hlen',qlen]) (fun k hk=>getD_setN fun e=>hk (by rw [← e]; rfl)) ⟨fun h=>(getD_setN (by omega)).trans (j4 h),fun h=>⟨(j7 h).1,(getD_setN (by omega)).trans (j7 h).2⟩,fun _=>⟨h4,h7⟩,.inr (.inr (.inl ⟨a,rfl,c,rfl,getD_setS (by omega)⟩))⟩
   ·rw [b] at hL; cases hL
   ·rw [b] at hL; cases hL
  | 9,_=>
   cases hio
   have d0:=hdep 0 (by decide) rfl 46 rfl
   simp only [go_sem,iEq,iLE,iLT,iTN,evD_tmp,k2,k4,d0,apV,za,zb,lastG,lastS,hb1,hb2,hbr,lMp,zc]
   exact hK1 rfl
  | 10,_=>
   cases hio
   have d9:=hdep 9 (by decide) rfl 55 rfl
   simp only [go_sem,iEq,iLE,iLT,iTN,evD_tmp,k2,k4,d9,apV,za,zb,lastG,lastS,hb1,hb2,hbr,lMp,zc]
   exact hK1 rfl
  | 11,_=>
   cases hio
   have d10:=hdep 10 (by decide) rfl 56 rfl
   have h8:L 8=true:=hds 8 (by decide)
   rcases hJ with ⟨a,b,c,rfl⟩ | ⟨a,b,c,rfl,e⟩ | ⟨a,b,c,rfl,e⟩ | ⟨a,b,c,rfl⟩
   ·rw [b] at h8; cases h8
   ·rw [b] at h8; cases h8
   ·simp only [go_sem,iEq,iLE,iLT,iTN,evD_tmp,k2,k4,d10,e,apV,za,zb,lastG,lastS,hb1,hb2,hbr,lMp,zc]
    exact hK2 rfl _ hlen (fun k hk=>rfl) ⟨j4,j7,j8,.inr (.inr (.inr ⟨a,b,rfl,rfl⟩))⟩
   ·rw [c] at hL; cases hL
  | j+12,hi=>exact absurd hi (by omega)
 intro L5 env6 om6 hall hlen hkeep hV hJ
 have hall':∀ i,i<12→L5 i=true:=hall
 have h11:=hall' 11 (by omega)
 dsimp only [apJ] at hJ
 obtain ⟨_,_,_,⟨a,b,c,rfl⟩ | ⟨a,b,c,rfl,e⟩ | ⟨a,b,c,rfl,e⟩ | ⟨a,b,c,rfl⟩⟩:=hJ
 ·rw [c] at h11; cases h11
 ·rw [c] at h11; cases h11
 ·rw [c] at h11; cases h11
 clear hall hall' hV a b c h11
 have u2:env6.getD 2 .any=.ref 1 0:=(hkeep 2 (by simp)).trans q2
 have u3:env6.getD 3 .any=.ref 2 0:=(hkeep 3 (by simp)).trans q3
 have u4:env6.getD 4 .any=.ref 3 0:=(hkeep 4 (by simp)).trans q4
 have u32:env6.getD 32 .any=.i g.defs.length:=(hkeep 32 (by simp)).trans q32
 have u33:env6.getD 33 .any=.i i:=(hkeep 33 (by simp)).trans q33
 have ulen:env6.length=64:=hlen.trans qlen
 clear hkeep hlen
 have hw:=wrap_succ i (by omega)
 have s57:∀ d:D,(env6.set 57 d).getD 57 .any=d:=fun d=>getD_setS (by omega)
 simp only [go_sem,iEq,iLE,iLT,iTN,evD_tmp,u33,s57,hw]
 refine ⟨i+1,by omega,by omega,?_⟩
 rw [rwL_rep]
 refine Mv.perm (n:=10+2 * i) (fun j=>some (lrK i j)) ?_ ?_ ?_ ?_ ?_ ?_
 ·intro a b k ha hb h1 h2
  exact lrK_inj ha hb (Option.some.inj (h1.trans h2.symm))
 ·intro j hj
  have:j=0:=by omega
  subst this
  exact ⟨by omega,congrArg some (lrK_lo (by omega) (by omega) (by omega))⟩
 ·simp; omega
 ·intro ks hk j o ho
  have hlo:∀ j,j≠6→j≠7→j≤2 * i+8→ks[j]? = some (some j):=fun j h6 h7 h=>by rw [hk j (by omega),lrK_lo h6 h7 h]
  have h6:ks[6]? = some (some (2 * i+9)):=hk 6 (by omega)
  have h7:ks[7]? = some (some (2 * i+11)):=hk 7 (by omega)
  have h9:ks[2 * i+9]? = some (some (2 * i+10)):=by rw [hk _ (by omega),lrK_hi]
  match j with
  | 0=>cases ho; rw [lrK_lo (by omega) (by omega) (by omega)]; exact .var rfl rfl (CvL.get (om:=_) ⟨.same (Strs_bl _),.same (Defs_bl _),.v,.v,.v,.own (hlo 4 (by omega) (by omega) (by omega)),.own (hlo 5 (by omega) (by omega) (by omega)),.own h6,.own (by rw [hR2]; exact h7),trivial⟩)
  | 1=>cases ho; rw [lrK_lo (by omega) (by omega) (by omega)]; exact .var rfl rfl (CvL.get (om:=_) ⟨.v,trivial⟩)
  | 2=>cases ho; rw [lrK_lo (by omega) (by omega) (by omega)]; exact .var rfl rfl (CvL.get (om:=_) ⟨.same (Defs_bl _),trivial⟩)
  | 3=>cases ho; rw [lrK_lo (by omega) (by omega) (by omega)]; exact .var rfl rfl (CvL.get (om:=_) ⟨.ref (hlo 0 (by omega) (by omega) (by omega)),trivial⟩)
  | 4=>cases ho; rw [lrK_lo (by omega) (by omega) (by omega)]; exact .slcS rfl (boR_bl _)
  | 5=>cases ho; rw [lrK_lo (by omega) (by omega) (by omega)]; exact .slcS rfl (boR_bl _)
  | 6=>
   cases ho
   rw [lrK_6]
   refine owMv (k':=8+2 * i) (?_:(R2++_)[2 * i+1]? = _) (fun a ha=>hlo _ (by omega) (by omega) (by omega)) (hlo _ (by omega) (by omega) (by omega))
   rw [zf (by omega),g2,oOb,ow_app]
  | 7=>
   cases ho
   rw [lrK_7]
   refine owMv (k':=2 * i+10) (?_:(R2++_)[2 * i+3]? = _) (fun a ha=>hlo _ (by omega) (by omega) (by omega)) (by rw [Nat.add_comm 9]; exact h9)
   rw [ze (by omega),hR2,show 2 * i+3 - (2 * i+2)=1 by omega]; rfl
  | j+8=>
   have ho2:(zd (2 * (i+1)) (bOb (zR g.kinds.length)))[j]? = some o:=ho
   have hj:=(List.getElem?_eq_some_iff.1 ho2).1
   rw [zg] at hj
   have:=List.eq_of_mem_replicate (List.mem_of_getElem? ho2)
   subst this
   by_cases hj2:j≤2 * i
   ·rw [lrK_lo (by omega) (by omega) (by omega)]
    refine .slcS (?_:(R2++_)[j]? = _) (boR_bl _)
    rw [zf (by omega)]
    exact g0 j hj2
   ·have:j=2 * i+1:=by omega
    subst this
    rw [show 2 * i+1+8=2 * i+9 by omega,lrK_hi]
    refine .slcS (?_:(R2++_)[2 * i+2]? = _) (boR_bl _)
    rw [ze (by omega),hR2,zi]; rfl
 ·simp [ulen,f80_i8]
 ·intro ks hk
  refine slots (live:=[2,3,4,32,33]) rfl ?_
  have hlo:∀ j,j≠6→j≠7→j≤2 * i+8→ks[j]? = some (some j):=fun j h6 h7 h=>by rw [hk j (by omega),lrK_lo h6 h7 h]
  intro t ht
  simp only [zh,List.not_mem_nil,or_false] at ht
  rcases ht with rfl | rfl | rfl | rfl | rfl
  ·rw [(getD_setN (by omega)).trans ((getD_setN (by omega)).trans u2)]; exact .ref (hlo 1 (by omega) (by omega) (by omega))
  ·rw [(getD_setN (by omega)).trans ((getD_setN (by omega)).trans u3)]; exact .ref (hlo 2 (by omega) (by omega) (by omega))
  ·rw [(getD_setN (by omega)).trans ((getD_setN (by omega)).trans u4)]; exact .ref (hlo 3 (by omega) (by omega) (by omega))
  ·rw [(getD_setN (by omega)).trans ((getD_setN (by omega)).trans u32)]; exact .v
  ·rw [getD_setS (by simp [ulen])]; exact .v
end
end Go.Proofs.YtbmedfjmccnclaaGreat.W
set_option maxRecDepth 100000
namespace Go.Proofs.YtbmedfjmccnclaaGreat.W
open Go Go.Proofs Go.Proofs.YtbmedfjmccnclaaGreat.AWP
open Int renaming reduceEq→iEq,reduceLE→iLE,reduceLT→iLT,reduceToNat→iTN
open List renaming length_map→lMp
theorem disableW (w:World):(callFunc 163 #[]).run Tryz.prog w=.ok (.value (.tuple #[])) w:=run_call_mark0 Tryz.func163 (by kernel_rfl) (by kernel_rfl) (by kernel_rfl) .disable (by kernel_rfl) w
theorem enableW (w:World):(callFunc 165 #[]).run Tryz.prog w=.ok (.value (.tuple #[])) w:=run_call_mark0 Tryz.func165 (by kernel_rfl) (by kernel_rfl) (by kernel_rfl) .enable (by kernel_rfl) w
theorem acquireW (a:Addr) (w:World):(callFunc 166 #[.pointer (some a)]).run Tryz.prog w=.ok (.value (.tuple #[])) w:=run_call_marked Tryz.func166 (by kernel_rfl) (by kernel_rfl) (by kernel_rfl) .acquire (by kernel_rfl) a w
theorem releaseMergeW (a:Addr) (w:World):(callFunc 168 #[.pointer (some a)]).run Tryz.prog w=.ok (.value (.tuple #[])) w:=run_call_marked Tryz.func168 (by kernel_rfl) (by kernel_rfl) (by kernel_rfl) .releaseMerge (by kernel_rfl) a w
set_option maxHeartbeats 1600000 in
theorem store_deferredW (a:Addr) (x:Value) (u:FrameMode) (w:World) (hc:w.cell? a=some x) (hz:w.frozen? a=false) :
  CallsD Tryz.prog 130 #[.pointer (some a),.bool true] u w fun e u' w'=>u'=u∧(e=.returned (.tuple #[])∧w'=w.drew.setCell a (.int .u32 1)):=by
 have hc':w.drew.cell? a=some x:=by go_simp
 have hz':w.drew.frozen? a=false:=by go_simp
 have hst:=run_call_store (P:=Tryz.prog) Tryz.func143 (by kernel_rfl) (by kernel_rfl) (by kernel_rfl) (by kernel_rfl) (k:=.u32) (y:=1) hc' hz'
 go_enter_d Tryz.func130,Tryz.ntmps130
 go_wp2
 go_region_calls
 all_goals (go_end0; exact ⟨rfl,rfl⟩)
set_option maxHeartbeats 1600000 in
theorem unlock_deferredW (a:Addr) (u:FrameMode) (w:World) (hc:w.cell? a=some (.int .i32 1)) (hz:w.frozen? a=false) :
  CallsD Tryz.prog 129 #[.pointer (some a)] u w fun e u' w'=>u'=u∧(e=.returned (.tuple #[])∧w'=w.setCell a (.int .i32 0)):=by
 have hd:=disableW
 have he:=enableW
 have hr:=releaseMergeW
 have hadd:=run_call_add (P:=Tryz.prog) Tryz.func169 (by kernel_rfl) (by kernel_rfl) (by kernel_rfl) .i32 (by kernel_rfl) (y:=-1) (s:=0) hc hz (by simp [go_sem]; rfl)
 have hcv:=run_convert_to_unsafe (P:=Tryz.prog) (src:=193) (dst:=197) Tryz.underlying193 Tryz.underlying197 (by kernel_rfl) hc
 go_enter_d Tryz.func129,Tryz.ntmps129
 go_wp2
 go_end0
 go_wp2
 go_end0
 exact ⟨rfl,rfl⟩
set_option maxHeartbeats 1600000 in
theorem lock_freeW (a:Addr) (w:World) (hc:w.cell? a=some (.int .i32 0)) (hz:w.frozen? a=false) :
  Calls Tryz.prog 128 #[.pointer (some a)] w fun e w'=>e=.returned (.tuple #[])∧w'=w.setCell a (.int .i32 1):=by
 have hd:=disableW
 have he:=enableW
 have ha:=acquireW
 have hcas:=run_call_cas_hit (P:=Tryz.prog) Tryz.func164 (by kernel_rfl) (by kernel_rfl) (by kernel_rfl) .i32 (by kernel_rfl) (y:=1) hc hz
 have hc':(w.setCell a (.int .i32 1)).cell? a=some (.int .i32 1):=World.cell?_setCell_same w a _ hc
 have hcv:=run_convert_to_unsafe (P:=Tryz.prog) (src:=193) (dst:=197) Tryz.underlying193 Tryz.underlying197 (by kernel_rfl) hc'
 go_enter Tryz.func128,Tryz.ntmps128
 go_wp2
 first | go_end0 | (simp only [Exit.inBlock,Exit.then]; refine bodyPost_ret (results_none rfl _ _ _) rfl ?_) | refine bodyPost_ret (results_none rfl _ _ _) rfl ?_
 go_wp2
 go_end0
 exact ⟨rfl,rfl⟩
set_option maxHeartbeats 3200000 in
theorem slowW (b off:Nat) (pl:Addr) (w:World) (Q:World→Prop)
  (h0:w.cell? ⟨b,off,none⟩=some (.int .u32 0)) (h1:w.cell? ⟨b,off+1,none⟩=some (.int .i32 0)) (f1:w.frozen? ⟨b,off+1,none⟩=false)
  (hf:Calls Tryz.prog 80 #[.pointer (some pl)] (w.setCell ⟨b,off+1,none⟩ (.int .i32 1)) fun e w'=>e=.returned (.tuple #[])∧Q w')
  (hQ:∀ w',Q w'→(∃ x,w'.cell? ⟨b,off,none⟩=some x)∧w'.frozen? ⟨b,off,none⟩=false∧w'.cell? ⟨b,off+1,none⟩=some (.int .i32 1)∧w'.frozen? ⟨b,off+1,none⟩=false) :
  Calls Tryz.prog 104 #[.pointer (some ⟨b,off,none⟩),.func (.func 80) #[.pointer (some pl)] #[]] w fun e w'=>e=.returned (.tuple #[]) ∧
   ∃ w2,Q w2∧w'=(w2.drew.setCell ⟨b,off,none⟩ (.int .u32 1)).setCell ⟨b,off+1,none⟩ (.int .i32 0):=by
 have hl:=run_call_load (P:=Tryz.prog) Tryz.func127 (by kernel_rfl) (by kernel_rfl) (by kernel_rfl) .u32 (by kernel_rfl) (w:=w.setCell ⟨b,off+1,none⟩ (.int .i32 1)) (a:=⟨b,off,none⟩) (x:=0) ((World.cell?_setCell_other _ ⟨b,off+1,none⟩ ⟨b,off,none⟩ _ (by simp)).trans h0)
 have hnot:∀ (x:Bool) (w:World),(Op.unary .not (.bool x)).run Tryz.prog w=.ok (.bool (!x)) w:=fun _ _=>rfl
 go_enter_defers Tryz.func104,Tryz.ntmps104
 go_wp2_with (first | (go_at_call 128; refine (lock_freeW ⟨b,off+1,none⟩ _ (by go_simp) (by go_simp)).mono ?_; rintro e w' ⟨rfl,rfl⟩) | (go_at_call 103; go_in))
 refine hf.mono ?_
 rintro e w1 ⟨rfl,hq⟩
 obtain ⟨⟨x0,q0⟩,q1,q2,q3⟩:=hQ w1 hq
 go_wp2
 refine leaves_cons (f:=130) (args:=#[.pointer (some ⟨b,off,none⟩),.bool true]) (by simp) (by simp [go_sem]) ?_
 refine (store_deferredW ⟨b,off,none⟩ x0 .returning _ q0 q1).mono ?_
 rintro e u' w'' ⟨rfl,rfl,rfl⟩
 refine leaves_cons (f:=129) (args:=#[.pointer (some ⟨b,off+1,none⟩)]) (by simp [settle]) (by simp [go_sem]) ?_
 refine (unlock_deferredW ⟨b,off+1,none⟩ _ _ ?_ (by simp [q3])).mono ?_
 ·refine (World.cell?_setCell_other _ ⟨b,off,none⟩ ⟨b,off+1,none⟩ _ (by simp)).trans ?_
  rw [World.cell?_drew]
  exact q2
 rintro e u' w'' ⟨rfl,rfl,rfl⟩
 simp [Leaves,settle,results,Tryz.results104]
 exact ⟨w1,hq,rfl⟩
set_option maxHeartbeats 3200000 in
theorem doW (b off:Nat) (pl:Addr) (w:World) (Q:World→Prop)
  (h0:w.cell? ⟨b,off,none⟩=some (.int .u32 0)) (h1:w.cell? ⟨b,off+1,none⟩=some (.int .i32 0)) (f1:w.frozen? ⟨b,off+1,none⟩=false)
  (hf:Calls Tryz.prog 80 #[.pointer (some pl)] (w.setCell ⟨b,off+1,none⟩ (.int .i32 1)) fun e w'=>e=.returned (.tuple #[])∧Q w')
  (hQ:∀ w',Q w'→(∃ x,w'.cell? ⟨b,off,none⟩=some x)∧w'.frozen? ⟨b,off,none⟩=false∧w'.cell? ⟨b,off+1,none⟩=some (.int .i32 1)∧w'.frozen? ⟨b,off+1,none⟩=false) :
  Calls Tryz.prog 79 #[.pointer (some ⟨b,off,none⟩),.func (.func 80) #[.pointer (some pl)] #[]] w fun e w'=>e=.returned (.tuple #[]) ∧
   ∃ w2,Q w2∧w'=(w2.drew.setCell ⟨b,off,none⟩ (.int .u32 1)).setCell ⟨b,off+1,none⟩ (.int .i32 0):=by
 have hl:=run_call_load (P:=Tryz.prog) Tryz.func127 (by kernel_rfl) (by kernel_rfl) (by kernel_rfl) .u32 (by kernel_rfl) h0
 have hnot:∀ (x:Bool) (w:World),(Op.unary .not (.bool x)).run Tryz.prog w=.ok (.bool (!x)) w:=fun _ _=>rfl
 go_enter Tryz.func79,Tryz.ntmps79
 go_wp2_with (first | (go_at_call 104; refine (slowW b off pl w Q h0 h1 f1 hf hQ).mono ?_; rintro e w' ⟨rfl,hw⟩) | (go_at_call 103; go_in))
 go_end0
 exact ⟨rfl,hw⟩
set_option maxHeartbeats 1600000 in
theorem doneW (a:Addr) (d:Int) (hd:¬ d=0) (fv:Value) (w:World) (h0:w.cell? a=some (.int .u32 d)) :
  Calls Tryz.prog 79 #[.pointer (some a),fv] w fun e w'=>e=.returned (.tuple #[])∧w'=w:=by
 have hl:=run_call_load (P:=Tryz.prog) Tryz.func127 (by kernel_rfl) (by kernel_rfl) (by kernel_rfl) .u32 (by kernel_rfl) h0
 have hnot:∀ (x:Bool) (w:World),(Op.unary .not (.bool x)).run Tryz.prog w=.ok (.bool (!x)) w:=fun _ _=>rfl
 have hd':(d != 0)=true:=by simp [hd]
 go_enter Tryz.func79,Tryz.ntmps79
 go_wp2
 go_end0
 exact ⟨rfl,rfl⟩
end Go.Proofs.YtbmedfjmccnclaaGreat.W
set_option maxRecDepth 100000
namespace Go.Proofs.YtbmedfjmccnclaaGreat.W
open Go Go.Proofs Go.Proofs.YtbmedfjmccnclaaGreat.AWP
open Int renaming reduceEq→iEq,reduceLE→iLE,reduceLT→iLT,reduceToNat→iTN
open List renaming length_map→lMp
attribute [local irreducible] xl hide aop aops aopQ qops guardP condP
theorem drew_ok {E:Env} {om:List Ob} (hR:Rel E om):Ext E om { E with w:=E.w.drew } om∧Rel { E with w:=E.w.drew } om:=by
 have hx:Ext E om { E with w:=E.w.drew } om:=⟨Nat.le_refl _,fun _ _=>rfl,fun _ h=>h,Nat.le_refl _,rfl,rfl,rfl,fun _ _ _=>rfl,fun _ h=>.inl h,fun _ h=>.inl h⟩
 refine ⟨hx,hR.len,fun k o hk=>?_,hR.inj,hR.old,hR.one,fun g c h=>(hR.gt g c h).ext hR hx⟩
 exact ObR.keep hR hx (by rw [← hR.len]; exact (List.getElem?_eq_some_iff.1 hk).1) (hR.ob k o hk) fun hl b hb=>⟨rfl,(hR.live_lt ⟨k,o,hk,hl,hb⟩).2⟩
theorem obCell {E:Env} {om:List Ob} (hR:Rel E om) {k b ty p:Nat} {c:List D} {x:Value} (ho:om[k]? = some (.var ty c)) (hg:hb (E.g k)=some b) (hp:c[p]? = some (.v x)):E.w.cell? ⟨b,p,none⟩=some x∧E.w.frozen? ⟨b,p,none⟩=false:=by
 obtain ⟨b',cs,q1,q2,q3,q4,q5⟩:=hR.ob k _ ho
 rw [q1] at hg
 simp only [hb,Option.some.injEq] at hg
 subst hg
 obtain ⟨y,e1,e2,e3⟩:=q5 p _ hp
 rw [e3.v_inv] at e1
 exact ⟨by rw [cell_of_heap q2]; exact e1,by simp [World.frozen?,q2]⟩
theorem arr_two {vs:Array Value} (h:vs.size=2):∃ a b,vs = #[a,b]:=by
 obtain ⟨l⟩:=vs
 match l,h with
 | [a,b],_=>exact ⟨a,b,rfl⟩
abbrev lkD (g:Gr) (o3:Int):Ob:=lkOb g 1 0 o3 (Bs (liveR false g.defs)) (Bs (liveR true g.defs)) (Rws (fstR (liveR false g.defs) (liveR true g.defs) g.kinds.length g.defs)) (Rws (shnR (liveR false g.defs) (liveR true g.defs) g.kinds.length (fstR (liveR false g.defs) (liveR true g.defs) g.kinds.length g.defs) g.defs))
section
variable {g:Gr} {o1 o2 o3:Int}
theorem doFirst (hd:∀ d∈g.defs,d.2.may g.kinds.length g.defs.length=true) (hl:g.defs.length≤1000000) (hn:g.kinds.length≤1000000) :
  AC Tryz.prog 79 [.ref 0 2,.bm 80 (.ref 0 0)] [lk0 g 0 0 o3] (fun o om=>o=.ret (.tup [])∧om=[lkD g o3]):=by
 refine ⟨by rfl,fun E vs hR hA=>?_⟩
 obtain ⟨hsz,hrd⟩:=hA
 have r0:=hrd 0 _ rfl
 have r1:=hrd 1 _ rfl
 obtain ⟨y0,y1,rfl⟩:=arr_two hsz
 have r0:Rd E (.ref 0 2) y0:=r0
 have r1:Rd E (.bm 80 (.ref 0 0)) y1:=r1
 cases r0 with
 | @ref _ _ b hk hg=>
  cases r1 with
  | bm r2=>
   cases r2 with
   | @ref _ _ b' hk' hg'=>
    have hbb:b=b':=Option.some.inj (hg.symm.trans hg')
    subst hbb
    have c0:=obCell hR (k:=0) (p:=2) rfl hg rfl
    have c1:=obCell hR (k:=0) (p:=3) rfl hg rfl
    obtain ⟨_,_,hx1,hR1,_⟩:=setCell_ok hR (k:=0) (b:=b) (p:=3) (o':=lk0 g 0 1 o3) (d:=.v (.int .i32 1)) (v:=.int .i32 1) rfl rfl hg rfl rfl (.v _)
    have hL:=(learnC (o1:=0) (o2:=1) (o3:=o3) hd hl hn).2 _ #[.pointer (some ⟨b,0,none⟩)] hR1 ⟨rfl,fun j d h=>by
     match j with
     | 0=>cases h; exact .ref hk hg
     | j+1=>cases h⟩
    generalize hX:[lkOb g 0 1 o3 (Bs (liveR false g.defs)) (Bs (liveR true g.defs)) (Rws (fstR (liveR false g.defs) (liveR true g.defs) g.kinds.length g.defs)) (Rws (shnR (liveR false g.defs) (liveR true g.defs) g.kinds.length (fstR (liveR false g.defs) (liveR true g.defs) g.kinds.length g.defs) g.defs))]=X at hL
    refine (doW b 2 ⟨b,0,none⟩ E.w (fun w'=>∃ E',E'.w=w'∧Ext { E with w:=E.w.setCell ⟨b,3,none⟩ (.int .i32 1) } ([lk0 g 0 0 o3].set 0 (lk0 g 0 1 o3)) E' X∧Rel E' X) c0.1 c1.1 c1.2 (hL.mono ?_) ?_).mono ?_
    ·rintro e w' ⟨E',o,om',⟨rfl,rfl⟩,hw,hx,hR',ho⟩
     refine ⟨?_,E',hw,hx,hR'⟩
     cases e with
     | returned y=>
      have ho:Rd E' (.tup []) y:=ho
      cases ho with
      | tup vs hs _=>
       have:vs = #[]:=Array.eq_empty_of_size_eq_zero hs
       rw [this]
     | _=>exact ho.elim
    ·rintro w' ⟨E',rfl,hx,hR'⟩
     subst hX
     have hg2:hb (E'.g 0)=some b:=by rw [hx.g 0 hk]; exact hg
     have c2:=obCell hR' (k:=0) (p:=2) rfl hg2 rfl
     have c3:=obCell hR' (k:=0) (p:=3) rfl hg2 rfl
     exact ⟨⟨_,c2.1⟩,c2.2,c3.1,c3.2⟩
    ·rintro e w' ⟨rfl,w2,⟨E',rfl,hx,hR'⟩,rfl⟩
     subst hX
     have hg2:hb (E'.g 0)=some b:=by rw [hx.g 0 hk]; exact hg
     obtain ⟨hx2,hR2⟩:=drew_ok hR'
     obtain ⟨_,_,hx3,hR3,_⟩:=setCell_ok hR2 (k:=0) (b:=b) (p:=2) (o':=lkOb g 1 1 o3 (Bs (liveR false g.defs)) (Bs (liveR true g.defs)) (Rws (fstR (liveR false g.defs) (liveR true g.defs) g.kinds.length g.defs)) (Rws (shnR (liveR false g.defs) (liveR true g.defs) g.kinds.length (fstR (liveR false g.defs) (liveR true g.defs) g.kinds.length g.defs) g.defs))) (d:=.v (.int .u32 1)) (v:=.int .u32 1) rfl rfl hg2 rfl rfl (.v _)
     obtain ⟨_,_,hx4,hR4,_⟩:=setCell_ok hR3 (k:=0) (b:=b) (p:=3) (o':=lkD g o3) (d:=.v (.int .i32 0)) (v:=.int .i32 0) rfl rfl hg2 rfl rfl (.v _)
     exact ⟨_,.ret (.tup []),_,⟨rfl,rfl⟩,rfl,(((hx1.trans hx).trans hx2).trans hx3).trans hx4,hR4,.tup #[] rfl (fun j d h=>by simp at h)⟩
theorem doAgain {dP dN dF dS:D} (h1:o1≠0) {x:D}:AC Tryz.prog 79 [.ref 0 2,x] [lkOb g o1 o2 o3 dP dN dF dS] (retP (.tup []) [lkOb g o1 o2 o3 dP dN dF dS]):=by
 refine ⟨by rfl,fun E vs hR hA=>?_⟩
 obtain ⟨hsz,hrd⟩:=hA
 have r0:=hrd 0 _ rfl
 obtain ⟨y0,y1,rfl⟩:=arr_two hsz
 have r0:Rd E (.ref 0 2) y0:=r0
 cases r0 with
 | @ref _ _ b hk hg=>
  have c0:=obCell hR (k:=0) (p:=2) rfl hg rfl
  refine (doneW ⟨b,2,none⟩ o1 h1 y1 E.w c0.1).mono ?_
  rintro e w' ⟨rfl,rfl⟩
  exact ⟨E,.ret (.tup []),_,⟨rfl,rfl⟩,rfl,Ext.refl _ _,hR,.tup #[] rfl (fun j d h=>by simp at h)⟩
end
end Go.Proofs.YtbmedfjmccnclaaGreat.W
set_option maxRecDepth 100000
namespace Go.Proofs.YtbmedfjmccnclaaGreat.W
open Go Go.Proofs Go.Proofs.YtbmedfjmccnclaaGreat.AWP
open Int renaming reduceEq→iEq,reduceLE→iLE,reduceLT→iLT,reduceToNat→iTN
open List renaming length_map→lMp
open _root_.List renaming mem_of_getElem? → za
attribute [local irreducible] xl hide aop aops aopQ qops guardP condP
theorem cFitsL (g:Gr) (l:List Cf) (hg:GFit g) (hl:l.length≤1000000) (hc:∀ c∈l,c.sz≤1099511627776):AP Tryz.prog 65 [.agg g.c,Cfs l] (.b (mayG g && l.all fun c=>c.may g.kinds.length g.defs.length && decide (c.sz≤2000))):=by
 have e:(!l.any fun c=>!(c.may g.kinds.length g.defs.length && decide (c.sz≤2000)))=l.all fun c=>c.may g.kinds.length g.defs.length && decide (c.sz≤2000):=by
  clear hl hc
  induction l with
  | nil=>rfl
  | cons x l ih=>rw [List.any_cons,List.all_cons,Bool.not_or,Bool.not_not,ih]
 have hq:∀ om (F:Nat→Bool) (kk:List (Option Nat)),Cv om F kk (Cfs l) (Cfs l):=fun om F kk=>.same (.sl (Cf.cs_bl l))
 refine AC.lbody hT hm Tryz.func65 f65_nm f65_lc f65_res f65_nt ?_
 simp only [go_sem,iEq,iLE,iLT,iTN,gr_take,gr_c_len]
 refine (cMayG g hg).pv ⟨.same (Gr.d_bl g),trivial⟩ ?_
 cases mayG g with
 | false=>
  simp only [go_sem,iEq,iLE,iLT,iTN]
  exact Fin.v rfl
 | true=>
 simp only [go_sem,iEq,iLE,iLT,iTN]
 have hA:=anyCf 86 [.pel g.c] (fun d hd=>by rw [List.mem_singleton.1 hd]; exact Gr.pel_bl g) (fun c=>!(c.may g.kinds.length g.defs.length && decide (c.sz≤2000))) l (by omega) fun x hx=>cFits1 g x (hc x hx)
 refine hA.pv ⟨hq _ _ _,.same (.fn fun d hd=>by rw [List.mem_singleton.1 hd]; exact Gr.pel_bl g),trivial⟩ ?_
 simp only [go_sem,iEq,iLE,iLT,iTN]
 exact Fin.v (by rw [e]; try simp)
abbrev cpOb (kind n:Int):Ob:=.var 28 [.v (.int .u8 kind),.i n,.own 2]
theorem cf_app (l:List Cf) (x:Cf):l.map Cf.c++[x.c]=(l++[x]).map Cf.c:=by simp
theorem take_get {α:Type} {l:List α} {i:Nat} {x:α} (h:l[i]? = some x):l.take i++[x]=l.take (i+1):=by rw [List.take_add_one,h]; rfl
set_option maxHeartbeats 4000000 in
theorem copiedC (r:Cf):r.sz≤2000→AP Tryz.prog 77 [.agg r.c] (.agg r.c):=by
 refine Cf.ind (p:=fun r=>r.sz≤2000→AP Tryz.prog 77 [.agg r.c] (.agg r.c)) ?_ r
 intro kind n ks ih hz
 rw [Cf.sz_mk] at hz
 have hkl:=Cf.szs_len ks
 have hq:∀ om (F:Nat→Bool) (kk:List (Option Nat)),Cv om F kk (.sl 3 (ks.map Cf.c)) (.sl 3 (ks.map Cf.c)):=fun om F kk=>.same (Cfs_bl ks)
 refine AC.lbody hT hm Tryz.func77 f77_nm f77_lc f77_res f77_nt ?_
 simp only [go_sem,iEq,iLE,iLT,iTN,Cf.c_mk,Cf.cs_eq,lMp]
 refine xl_loopM hT hm (fun i:Nat=>⟨f77_i8 (.ref 0 0) (.ref 1 0) (.sl 3 (ks.map Cf.c)) (.i ks.length) (.i i),[cpOb kind n,zCfOb,cfOb (ks.take i)]⟩)
  (fun i=>i≤ks.length) (fun i=>ks.length - i) 0 (Nat.zero_le _) ?_ ?_
 ·exact Mv.of [some 0,some 1,none] rfl ⟨.varL rfl ⟨.v,.v,.nilOwn rfl,trivial⟩,.varL rfl ⟨.v,.v,.v,trivial⟩,.nil (by omega),trivial⟩ (by simp [f77_i8,hq])
 intro i hi
 simp only [go_sem,iEq,iLE,iLT,iTN]
 by_cases hiq:i<ks.length
 case neg=>
  have t2:ks.take i=ks:=List.take_of_length_le (by omega)
  simp only [go_sem,iEq,iLE,iLT,iTN,hiq,t2]
  exact Fin.ret (.aggL ⟨.v,.v,.frzS rfl rfl (Cf.map_bl ks),trivial⟩)
 obtain ⟨x,hx⟩:=get_ex hiq
 have hxz:=Cf.szs_mem (za hx)
 have hg:(ks.map Cf.c)[i]? = some x.c:=by rw [List.getElem?_map,hx]; rfl
 have hw:=wrap_succ i (by omega)
 have ht:(ks.take i).length=i:=by rw [List.length_take]; omega
 have hbr:(i+1) * 48≤140737488355328:=by omega
 simp only [go_sem,iEq,iLE,iLT,iTN,hiq,hg,lMp,cf_put]
 refine (ih x (za hx) (by omega)).qd ⟨.same (Cf.d_bl x),trivial⟩ (Cf.d_bl x) ?_
 simp only [go_sem,iEq,iLE,iLT,iTN,hiq,hg,lMp,cf_put,hw,ht,hbr,cf_app,take_get hx]
 refine ⟨by omega,i+1,by omega,by omega,?_⟩
 exact Mv.of [some 0,some 1,some 4] rfl ⟨.varL rfl ⟨.v,.v,.own rfl,trivial⟩,.varL rfl ⟨.v,.v,.v,trivial⟩,.slcS rfl (Cf.map_bl _),trivial⟩ (by simp [hq])
abbrev dfOb (l:List Df):Ob:=.slc 43 4 (dfR l)
theorem df_app (l:List Df) (x:Df):dfR l++[dfC x]=dfR (l++[x]):=by simp [dfR]
abbrev grV (a b:D):Ob:=.var 25 [a,b]
set_option maxHeartbeats 4000000 in
theorem cloneC (g:Gr) (hg:mayG g=true):AP Tryz.prog 43 [.agg g.c] (.agg g.c):=by
 obtain ⟨m1,m2,m3,m4,m5,m6,m7,m8⟩:=mayG_facts hg
 have hq:∀ om (F:Nat→Bool) (kk:List (Option Nat)),Cv om F kk (Defs g.defs) (Defs g.defs):=fun om F kk=>.same (Defs_bl _)
 refine AC.lbody hT hm Tryz.func43 f43_nm f43_lc f43_res f43_nt ?_
 simp only [go_sem,iEq,iLE,iLT,iTN,gr_take,gr_c_len,lMp]
 refine ⟨_,cloneS g.kinds (by omega) _,?_⟩
 rintro _ _ (⟨h0,_⟩ | ⟨rfl,rfl⟩)
 ·rw [h0] at m3; simp at m3
 simp only [go_sem,iEq,iLE,iLT,iTN,gr_take,gr_c_len,lMp]
 refine xl_loopM hT hm (fun i:Nat=>⟨f43_i7 (.ref 0 0) (.ref 2 0) (Defs g.defs) (.i g.defs.length) (.i i),[grV nilS nilS,strOb g.kinds,grV (.own 1) (.own 3),dfOb (g.defs.take i)]⟩)
  (fun i=>i≤g.defs.length) (fun i=>g.defs.length - i) 0 (Nat.zero_le _) ?_ ?_
 ·exact Mv.of [some 0,some 2,some 3,none] rfl ⟨.varL rfl ⟨.v,.v,trivial⟩,.slcS rfl (strR_bl _),.varL rfl ⟨.own rfl,.nilOwn rfl,trivial⟩,.nil (by omega),trivial⟩ (by simp [f43_i7,hq])
 intro i hi
 simp only [go_sem,iEq,iLE,iLT,iTN,lMp]
 by_cases hiq:i<g.defs.length
 case neg=>
  have t2:g.defs.take i=g.defs:=List.take_of_length_le (by omega)
  simp only [go_sem,iEq,iLE,iLT,iTN,hiq,t2]
  exact Fin.ret (.aggL ⟨.frzS rfl rfl (strR_bl _),.frzS rfl rfl (dfR_bl _),trivial⟩)
 obtain ⟨x,hx⟩:=get_ex hiq
 have hxz:=grSz_mem (za hx)
 have hgx:=df_get hx
 have hw:=wrap_succ i (by omega)
 have ht:(g.defs.take i).length=i:=by rw [List.length_take]; omega
 have hbr:(i+1) * 56≤140737488355328:=by omega
 simp only [go_sem,iEq,iLE,iLT,iTN,hiq,hgx,lMp,dPut]
 refine (copiedC x.2 (by omega)).qd ⟨.same (Cf.d_bl x.2),trivial⟩ (Cf.d_bl x.2) ?_
 simp only [go_sem,iEq,iLE,iLT,iTN,hiq,hgx,lMp,dPut,hw,ht,hbr,df_app,take_get hx]
 refine ⟨i+1,by omega,by omega,?_⟩
 exact Mv.of [some 0,some 1,some 2,some 5] rfl ⟨.varL rfl ⟨.v,.v,trivial⟩,.slcS rfl (strR_bl _),.varL rfl ⟨.own rfl,.own rfl,trivial⟩,.slcS rfl (dfR_bl _),trivial⟩ (by simp [hq])
end Go.Proofs.YtbmedfjmccnclaaGreat.W
