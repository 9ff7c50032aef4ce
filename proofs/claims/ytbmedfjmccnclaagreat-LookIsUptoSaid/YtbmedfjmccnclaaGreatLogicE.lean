/- An object with one of several contents, ahead of others. -/
import Derived.Test.YtbmedfjmccnclaaGreatLogicD
import Derived.Test.YtbmedfjmccnclaaGreatLogicB
set_option linter.unusedVariables false
set_option linter.unusedSimpArgs false
set_option linter.unusedSectionVars false
namespace Go.Proofs.YtbmedfjmccnclaaGreat.AWP
open Go
open _root_.List renaming getElem?_append_right → za, append_assoc → zb, length_append → zc
def ShO (c:Nat) (d d':D):Prop:=(Bl 0 d∧d'=d)∨(∃ k off,d=.ref k off∧d'=.ref (c+k) off)∨∃ k,d=.own k∧d'=.own (c+k)
theorem AC.shiftO {P:Program} {f:FuncId} {ds ds':List D} {om fr bk:List Ob} {R:Out→List Ob→Prop} (h:AC P f ds om R) (hlen:ds'.length=ds.length)
  (hds:∀ (j:Nat) (d d':D),ds[j]? = some d→ds'[j]? = some d'→ShO fr.length d d') (hrf:∀ (j k off:Nat),ds[j]? = some (.ref k off)→k<om.length) (hro:∀ (j k:Nat),ds[j]? = some (.own k)→k<om.length) (ho:∀ o∈om,ObAll (Bl 0) o)
  (hl:∀ o om',R o om'→om'.length=om.length∧OutBl o∧∀ x∈om',ObAll (Bl 0) x):AC P f ds' (fr++om++bk) fun o om2=>∃ om',R o om'∧om2=fr++om'++bk:=by
 refine ⟨h.1,fun E vs hR hA=>?_⟩
 have hn:fr.length+om.length+bk.length=E.n:=by rw [← hR.len]; simp only [zc]
 let E1:Env:=⟨om.length,fun k=>E.g (fr.length+k),E.A,E.w⟩
 have rd1:∀ d,Bl 0 d→∀ y,Rd E d y→Rd E1 d y:=fun d hd y hy=>Rd.bl (E:=E) (E2:=E1) (n:=0) (Nat.zero_le _) (fun _ h=>absurd h (Nat.not_lt_zero _)) (fun _ h=>h) rfl hy hd
 have sub:∀ {k:Nat} {o:Ob},om[k]? = some o→(fr++om++bk)[fr.length+k]? = some o:=fun {k o} hk=>by
  have:=(List.getElem?_eq_some_iff.1 hk).1
  rw [zb,za (by omega),List.getElem?_append_left (by omega)]; simpa using hk
 let Oth:Nat→Ob→Prop:=fun k o=>(fr++om++bk)[k]? = some o∧¬ (fr.length≤k∧k<fr.length+om.length)
 have sub2:∀ {k:Nat} {o:Ob},Oth k o→(fr++om++bk)[k]? = some o:=fun {k o} hk=>hk.1
 have hR1:Rel E1 om:=by
  refine ⟨rfl,fun k o hk=>?_,fun k k' o o' b hk hk' hl hl' hb hb'=>?_,hR.old,fun k hk=>hR.one _ (by show fr.length+k<E.n; have:k<om.length:=hk; omega),fun g c h=>rd1 _ (gtab_bl h) _ (hR.gt g c h)⟩
  ·exact ObR.via (E:=E) (k:=fr.length+k) rfl (ho o (List.mem_of_getElem? hk)) rd1 (fun hl b hb=>⟨rfl,fun hA=>hR.notlive hA ⟨_,o,sub hk,hl,hb⟩⟩) (hR.ob _ o (sub hk))
  ·have:=hR.inj _ _ o o' b (sub hk) (sub hk') hl hl' hb hb'
   omega
 have rdA:∀ d d' y,ShO fr.length d d'→Rd E d' y→(∀ k off,d=.ref k off→k<om.length)→(∀ k,d=.own k→k<om.length)→Rd E1 d y:=by
  rintro d d' y (⟨h1,rfl⟩ | ⟨k,off,rfl,rfl⟩ | ⟨k,rfl,rfl⟩) hy hk hko
  ·exact rd1 _ h1 _ hy
  ·cases hy with
   | ref hk' hg=>exact .ref (hk k off rfl) hg
  ·cases hy with
   | own hk'=>exact Rd.own (E:=E1) (hko k rfl)
 refine (h.2 E1 vs hR1 ⟨by rw [hA.1,hlen],fun j d hj=>?_⟩).mono ?_
 ·have hj':j<ds'.length:=by rw [hlen]; exact (List.getElem?_eq_some_iff.1 hj).1
  have hs:=hds j d ds'[j] hj (List.getElem?_eq_getElem hj')
  have hy:=hA.2 j _ (List.getElem?_eq_getElem hj')
  exact rdA _ _ _ hs hy (fun k off e=>hrf j k off (by rw [hj,e])) fun k e=>hro j k (by rw [hj,e])
 rintro e w' ⟨E',o,om',hr,rfl,hx,hR',hO⟩
 obtain ⟨hlen',hob,hoa⟩:=hl o om' hr
 have hn':E'.n=om.length:=by rw [← hR'.len,hlen']
 let E2:Env:=⟨E.n,E.g,E'.A,E'.w⟩
 have hg:∀ k,k<E'.n→E2.g (fr.length+k)=E'.g k:=fun k hk=>(hx.g k (by show k<om.length; omega)).symm
 have rd2:∀ d,Bl 0 d→∀ y,Rd E' d y→Rd E2 d y:=fun d hd y hy=>Rd.bl (E:=E') (E2:=E2) (n:=0) (Nat.zero_le _) (fun _ h=>absurd h (Nat.not_lt_zero _)) (fun _ h=>h) rfl hy hd
 have live1:∀ {b},Live E1 om b→Live E (fr++om++bk) b:=by
  rintro b ⟨k,o,hk,hl,hb⟩
  exact ⟨_,o,sub hk,hl,hb⟩
 have sep:∀ {k o b},Oth k o→o.live=true→hb (E.g k)=some b→¬ Live E1 om b:=by
  rintro k o b hk hl hb ⟨k',o',hk',hl',hb'⟩
  have:=hR.inj _ _ _ _ b (sub2 hk) (sub hk') hl hl' hb hb'
  have:=hk.2
  have:=(List.getElem?_eq_some_iff.1 hk').1
  omega
 have lt:∀ {k o b},Oth k o→o.live=true→hb (E.g k)=some b→b<E.w.heap.size∧¬ E.A b:=fun hk hl hb=>hR.live_lt ⟨_,_,sub2 hk,hl,hb⟩
 have rd3:∀ d y,Rd E d y→Rd E2 d y:=fun d y hy=>Rd.gen (E:=E) (E':=E2) (Nat.le_refl _) (fun _ _=>rfl) hx.A (h:=hy) fun a hA=>World.cell?_of_block (hx.keep _ (hR.old _ hA) fun hL=>hR.notlive hA (live1 hL))
 have cases2:∀ {k o},(fr++om'++bk)[k]? = some o→(∃ j,k=fr.length+j∧j<om.length∧om'[j]? = some o)∨Oth k o:=by
  intro k o hk
  rw [zb] at hk
  rcases getElem?_app hk with ⟨h1,h2⟩ | ⟨h1,h2⟩
  ·refine .inr ⟨?_,by omega⟩
   rw [zb,List.getElem?_append_left h1]; exact h2
  ·rcases getElem?_app h2 with ⟨h3,h4⟩ | ⟨h3,h4⟩
   ·exact .inl ⟨k - fr.length,by omega,by omega,h4⟩
   ·refine .inr ⟨?_,by omega⟩
    rw [zb,za h1,za (by omega),← hlen']
    exact h4
 have live':∀ {k o b},om'[k]? = some o→o.live=true→hb (E.g (fr.length+k))=some b→Live E' om' b:=by
  intro k o b hk hl hb
  refine ⟨k,o,hk,hl,?_⟩
  rw [hx.g k (by have:=(List.getElem?_eq_some_iff.1 hk).1; show k<om.length; omega)]
  exact hb
 have mix:∀ {k j o o' b},om'[k]? = some o→o.live=true→hb (E.g (fr.length+k))=some b→Oth j o'→o'.live=true→hb (E.g j)=some b→False:=by
  intro k j o o' b hk hl hb hj hl' hb'
  rcases hx.live b (live' hk hl hb) with h | h
  ·exact sep hj hl' hb' h
  ·have:=(lt hj hl' hb').1
   have h:E.w.heap.size≤b:=h
   omega
 refine ⟨E2,o,fr++om'++bk,⟨om',hr,rfl⟩,rfl,?_,?_,?_⟩
 ·refine ⟨Nat.le_refl _,fun _ _=>rfl,hx.A,hx.size,hx.os,hx.tape,hx.output,fun b hb hn=>hx.keep b hb fun hL=>hn (live1 hL),?_,fun b hA=>?_⟩
  ·rintro b ⟨k,o,hk,hl,hb⟩
   rcases cases2 hk with ⟨j,rfl,_,h2⟩ | h2
   ·exact (hx.live b (live' h2 hl hb)).imp live1 id
   ·exact .inl ⟨_,_,sub2 h2,hl,hb⟩
  ·exact (hx.newA b hA).imp id fun h=>h.imp live1 id
 ·refine ⟨by show _=E.n; rw [zc,zc,hlen']; exact hn,fun k o hk=>?_,fun k k' o o' b hk hk' hl hl' hb hb'=>?_,hR'.old,hR.one,fun g c h=>rd2 _ (gtab_bl h) _ (hR'.gt g c h)⟩
  ·rcases cases2 hk with ⟨j,rfl,h1,h2⟩ | h2
   ·refine ObR.via (E:=E') (k:=j) (p:=Bl 0) (hg j (by omega)) (hoa _ (List.mem_of_getElem? h2)) (fun d hd y=>rd2 d hd y) (fun hl b hb=>⟨rfl,?_⟩) (hR'.ob j o h2)
    exact (hR'.live_lt ⟨j,o,h2,hl,hb⟩).2
   ·refine ObR.via (E:=E) (k:=k) rfl ObAll.triv (fun d _ y=>rd3 d y) (fun hl b hb=>?_) (hR.ob _ o (sub2 h2))
    have h3:=lt h2 hl hb
    have h4:=sep h2 hl hb
    refine ⟨hx.keep b h3.1 h4,fun hA=>?_⟩
    rcases hx.newA b hA with h | h | h
    ·exact h3.2 h
    ·exact h4 h
    ·have h:E.w.heap.size≤b:=h
     omega
  ·rcases cases2 hk with ⟨j,rfl,h1,h2⟩ | h2 <;> rcases cases2 hk' with ⟨j',rfl,h1',h2'⟩ | h2'
   ·exact congrArg (fr.length + ·) (hR'.inj j j' o o' b h2 h2' hl hl' (by rw [← hg j (by omega)]; exact hb) (by rw [← hg j' (by omega)]; exact hb'))
   ·exact (mix h2 hl hb h2' hl' hb').elim
   ·exact (mix h2' hl' hb' h2 hl hb).elim
   ·exact hR.inj _ _ _ _ b (sub2 h2) (sub2 h2') hl hl' hb hb'
 ·cases o <;> cases e <;> simp only [OutR] at hO ⊢
  ·exact rd2 _ hob _ hO
  ·obtain ⟨y,h1,h2⟩:=hO
   exact ⟨y,h1,rd2 _ hob _ h2⟩
end Go.Proofs.YtbmedfjmccnclaaGreat.AWP
namespace Go.Proofs.YtbmedfjmccnclaaGreat.AWP
open Go
open _root_.List renaming range → za
def WkB (n:Nat):List D→List D→Prop
 | [],[]=>True
 | d :: e,d' :: e'=>(d'=.any∨(d=d'∧Bl n d))∧WkB n e e'
 | _,_=>False
theorem WkB.len {n:Nat}:∀ {e e':List D},WkB n e e'→e'.length=e.length
 | [],[],_=>rfl
 | d :: e,d' :: e',h=>by simp only [List.length_cons]; rw [h.2.len]
theorem WkB.get {n:Nat}:∀ {e e':List D},WkB n e e'→∀ (t:Nat),e'.getD t .any=.any∨(e.getD t .any=e'.getD t .any∧Bl n (e.getD t .any))
 | [],[],_,t=>by simp
 | d :: e,d' :: e',h,0=>by simpa using h.1
 | d :: e,d' :: e',h,t+1=>by simpa using h.2.get t
attribute [simp] WkB
theorem Mv.cut {base:Nat} {env env':List D} {om junk:List Ob} (hb0:base≤om.length) (ho:∀ o∈om,ObAll (Bl om.length) o) (h:WkB om.length env env'):Mv base ⟨env,om++junk⟩ ⟨env',om⟩:=by
 intro lo E a hb hs
 have hn:om.length+junk.length=E.n:=by rw [← hs.rel.len]; simp
 let E1:Env:=⟨om.length,E.g,E.A,E.w⟩
 have sub:∀ {k:Nat} {o:Ob},om[k]? = some o→(om++junk)[k]? = some o:=fun {k o} hk=>by rw [List.getElem?_append_left (List.getElem?_eq_some_iff.1 hk).1]; exact hk
 have rd:∀ d,Bl om.length d→∀ y,Rd E d y→Rd E1 d y:=fun d hd y hy=>Rd.bl (E:=E) (E2:=E1) (n:=om.length) (Nat.le_refl _) (fun _ _=>rfl) (fun _ h=>h) rfl hy hd
 refine ⟨E1,rfl,⟨hb0,fun _ _=>rfl,fun _ h=>h,Nat.le_refl _,rfl,rfl,rfl,fun _ _ _=>rfl,?_,fun b hA=>.inl hA⟩,⟨rfl,fun k o hk=>?_,fun k k' o o' b h1 h2=>hs.rel.inj k k' o o' b (sub h1) (sub h2),hs.rel.old,fun k hk=>hs.rel.one k (by have:k<om.length:=hk; omega),fun g c hg=>rd _ ((gtab_bl hg).mono (Nat.zero_le _)) _ (hs.rel.gt g c hg)⟩,hs.defs,by rw [hs.size]; exact h.len.symm,fun t=>?_⟩
 ·rintro b ⟨k,o,h1,h2,h3⟩
  exact .inl ⟨k,o,sub h1,h2,h3⟩
 ·exact ObR.via (E:=E) (k:=k) rfl (ho o (List.mem_of_getElem? hk)) rd (fun hl b hb=>⟨rfl,fun hA=>hs.rel.notlive hA ⟨k,o,sub hk,hl,hb⟩⟩) (hs.rel.ob k o (sub hk))
 ·show Rd E1 (env'.getD t .any) _
  rcases h.get t with h | ⟨h,hbl⟩
  ·rw [h]; exact .any _
  ·rw [← h]; exact rd _ hbl _ (hs.rd t)
theorem Mv.perm {base n:Nat} {env env':List D} {om om':List Ob} (φ:Nat→Option Nat) (hinj:∀ i j k,i<n→j<n→φ i=some k→φ j=some k→i=j) (hbase:∀ j,j<base→j<n∧φ j=some j) (hn:om'.length=n)
  (hob:∀ ks:List (Option Nat),(∀ j,j<n→ks[j]? = some (φ j))→∀ (j:Nat) (o:Ob),om'[j]? = some o→MvO om (fun _=>false) ks (φ j) o) (hl:env'.length=env.length)
  (he:∀ ks:List (Option Nat),(∀ j,j<n→ks[j]? = some (φ j))→∀ t,env'.getD t .any=.any∨Cv om (fun _=>false) ks (env.getD t .any) (env'.getD t .any)):Mv base ⟨env,om⟩ ⟨env',om'⟩:=by
 intro lo E a hb hs
 have hk:∀ j,j<n→((za n).map φ)[j]? = some (φ j):=fun j hj=>by rw [List.getElem?_map,List.getElem?_range hj]; rfl
 have hki:∀ j x,((za n).map φ)[j]? = some x→j<n∧φ j=x:=by
  intro j x h
  have hj:j<n:=by have:=(List.getElem?_eq_some_iff.1 h).1; simpa using this
  rw [hk j hj] at h
  exact ⟨hj,by simpa using h⟩
 obtain ⟨E',h1,h2,h3,ok⟩:=mv_ok (base:=base) (om:=om) (om':=om') (F:=fun _=>false) (ks:=(za n).map φ) (fun k j h=>by cases h)
  (fun j j' k h h'=>hinj j j' k (hki j _ h).1 (hki j' _ h').1 (hki j _ h).2 (hki j' _ h').2) (by simp [hn]) (fun j hj=>by rw [hk j (hbase j hj).1,(hbase j hj).2])
  (fun j x o h1 h2=>by
   rw [← (hki j x h1).2]
   exact hob _ hk j o h2) hs.rel
 refine ⟨E',h1,h2,h3,hs.defs.extB hs.rel h2,by rw [hs.size]; exact hl.symm,fun t=>?_⟩
 show Rd E' (env'.getD t .any) _
 rcases he _ hk t with h | h
 ·rw [h]; exact .any _
 ·exact h.rd hs.rel ok (hs.rd t)
def isAny:D→Bool
 | .any=>true
 | _=>false
def butAny (live:List Nat):Nat→List D→Bool
 | _,[]=>true
 | i,d :: l=>(isAny d || live.contains i) && butAny live (i+1) l
theorem isAny_eq {d:D} (h:isAny d=true):d=.any:=by
 cases d <;> first | rfl | cases h
theorem butAny_get {live:List Nat}:∀ {l:List D} {i:Nat},butAny live i l=true→∀ t,l.getD t .any=.any∨(i+t)∈live
 | [],i,h,t=>.inl (by simp)
 | d :: l,i,h,0=>by
  rw [butAny,Bool.and_eq_true,Bool.or_eq_true] at h
  rcases h.1 with h1 | h1
  ·exact .inl (isAny_eq h1)
  ·exact .inr (by simpa using h1)
 | d :: l,i,h,t+1=>by
  rw [butAny,Bool.and_eq_true] at h
  rcases butAny_get h.2 t with h1 | h1
  ·exact .inl h1
  ·exact .inr (by rw [show i+(t+1)=i+1+t by omega]; exact h1)
theorem slots {live:List Nat} {e':List D} {p:Nat→Prop} (h:butAny live 0 e'=true) (hp:∀ t∈live,p t) (t:Nat):e'.getD t .any=.any∨p t:=by
 rcases butAny_get h t with h | h
 ·exact .inl h
 ·exact .inr (hp t (by simpa using h))
end Go.Proofs.YtbmedfjmccnclaaGreat.AWP
namespace Go.Proofs.YtbmedfjmccnclaaGreat.AWP
open Go
open _root_.Nat renaming not_lt_zero → za, le_refl → zb, zero_le → zc
theorem AC.post {P:Program} {f:FuncId} {ds:List D} {om:List Ob} {R R':Out→List Ob→Prop} (h:AC P f ds om R) (hf:∀ o om',R o om'→Fin om om' o R'):AC P f ds om R':=by
 refine ⟨h.1,fun E vs hR hA=>(h.2 E vs hR hA).mono ?_⟩
 rintro e w' ⟨E',o,om',hr,hw,hx,hR',ho⟩
 obtain ⟨E2,o2,om2,h1,h2,h3⟩:=hf o om' hr E E' e hR hx hR' ho
 exact ⟨E2,o2,om2,h1,h2.trans hw,h3⟩
def newR (ob:Ob):Out→List Ob→Prop:=fun o om=>o=.ret (.own 0)∧om=[ob]
theorem AC.frameT {P:Program} {f:FuncId} {as ds:List D} {om:List Ob} {ob:Ob} {x:Value} (h:AC P f ds [] (fun o om=>o=.ret (.tup [.ref 0 0,.v x])∧om=[ob])) (hv:CvL om (fun _=>false) [] as ds) (hp:ObAll (Bl 0) ob) :
  AC P f as om (fun o om2=>o=.ret (.tup [.ref om.length 0,.v x])∧om2=om++[ob]):=by
 refine ⟨h.1,fun E vs hR hA=>?_⟩
 let E1:Env:=⟨0,E.g,E.A,E.w⟩
 have ok:CvOk E E1 om (fun _=>false) []:=⟨fun b h=>h,rfl,zb _,fun j k h=>by simp at h,fun j h=>by simp at h,fun k o b h1 h2 h3 h4=>by cases h3⟩
 have hR1:Rel E1 []:=⟨rfl,fun k o h=>by simp at h,fun k k' o o' b h=>by simp at h,hR.old,fun k hk=>absurd hk (za _),fun g c h=>Rd.bl (E:=E) (E2:=E1) (n:=0) (zc _) (fun _ h=>absurd h (za _)) (ok.A) rfl (hR.gt g c h) (gtab_bl h)⟩
 refine (h.2 E1 vs hR1 (rdA_of_cvL hR ok hv hA)).mono ?_
 rintro e w' ⟨E2,o2,om2,⟨rfl,rfl⟩,rfl,hx,hR2,ho⟩
 have hn2:E2.n=1:=hR2.len.symm
 let E3:Env:=⟨E.n+1,fun k=>if k<E.n then E.g k else E2.g 0,E2.A,E2.w⟩
 have noL:∀ b,¬ Live E1 [] b:=by rintro b ⟨k,o,h1,_⟩; simp at h1
 have gl:∀ {k},k<E.n→E3.g k=E.g k:=fun h=>if_pos h
 have gn:E3.g E.n=E2.g 0:=if_neg (Nat.lt_irrefl _)
 have kn:∀ {k:Nat} {o:Ob},om[k]? = some o→k<E.n:=fun h=>by rw [← hR.len]; exact (List.getElem?_eq_some_iff.1 h).1
 have cs:∀ {k:Nat} {o:Ob},(om++[ob])[k]? = some o→(k<E.n∧om[k]? = some o)∨(k=E.n∧o=ob):=by
  intro k o hk
  rcases Nat.lt_or_ge k om.length with h | h
  ·rw [List.getElem?_append_left h] at hk
   exact .inl ⟨by rw [← hR.len]; exact h,hk⟩
  ·rw [List.getElem?_append_right h] at hk
   have hl:=(List.getElem?_eq_some_iff.1 hk).1
   have:k=om.length:=by simp at hl; omega
   subst this
   rw [Nat.sub_self] at hk
   cases hk
   exact .inr ⟨hR.len,rfl⟩
 have new:∀ {b},ob.live=true→hb (E2.g 0)=some b→E.w.heap.size≤b:=by
  intro b hl hb
  rcases hx.live b ⟨0,ob,rfl,hl,hb⟩ with h | h
  ·exact (noL b h).elim
  ·exact h
 have hx3:Ext E om E3 (om++[ob]):=by
  refine ⟨Nat.le_succ _,fun k hk=>gl hk,fun b hA=>hx.A b hA,hx.size,hx.os,hx.tape,hx.output,fun b hb' hn=>hx.keep b hb' (noL b),?_,?_⟩
  ·rintro b ⟨k,o,h1,h2,h3⟩
   rcases cs h1 with ⟨hk,h4⟩ | ⟨rfl,rfl⟩
   ·rw [gl hk] at h3
    exact .inl ⟨k,o,h4,h2,h3⟩
   ·rw [gn] at h3
    exact .inr (new h2 h3)
  ·intro b hA
   rcases hx.newA b hA with hA | hA | hA
   ·exact .inl hA
   ·exact (noL b hA).elim
   ·exact .inr (.inr hA)
 refine ⟨E3,.ret (.tup [.ref om.length 0,.v x]),om++[ob],⟨rfl,rfl⟩,rfl,hx3,⟨by simp [hR.len,E3],fun k o hk=>?_,?_,hR2.old,?_,fun g c h=>(hR.gt g c h).ext hR hx3⟩,?_⟩
 ·rcases cs hk with ⟨hkn,h4⟩ | ⟨rfl,rfl⟩
  ·refine ObR.keep hR hx3 hkn (hR.ob k o h4) fun hl b hbk=>?_
   have hlv:Live E om b:=⟨k,o,h4,hl,hbk⟩
   refine ⟨hx.keep b (hR.live_lt hlv).1 (noL b),fun hA=>?_⟩
   rcases hx.newA b hA with h | h | h
   ·exact hR.notlive h hlv
   ·exact noL b h
   ·have h:E.w.heap.size≤b:=h
    have:=(hR.live_lt hlv).1
    omega
  ·refine ObR.via (E:=E2) (k:=0) gn hp (fun d hd y hy=>Rd.bl (E:=E2) (E2:=E3) (n:=0) (zc _) (fun _ h=>absurd h (za _)) (fun _ h=>h) rfl hy hd) (fun hl b hb=>⟨rfl,fun hA=>?_⟩) (hR2.ob 0 _ rfl)
   exact hR2.notlive hA ⟨0,_,rfl,hl,hb⟩
 ·intro k k' o o' b h1 h2 h3 h4 h5 h6
  rcases cs h1 with ⟨hk,q1⟩ | ⟨rfl,rfl⟩ <;> rcases cs h2 with ⟨hk',q2⟩ | ⟨rfl,rfl⟩
  ·rw [gl hk] at h5
   rw [gl hk'] at h6
   exact hR.inj k k' o o' b q1 q2 h3 h4 h5 h6
  ·rw [gl hk] at h5
   rw [gn] at h6
   have:=(hR.live_lt ⟨k,o,q1,h3,h5⟩).1
   have:=new h4 h6
   omega
  ·rw [gn] at h5
   rw [gl hk'] at h6
   have:=(hR.live_lt ⟨k',o',q2,h4,h6⟩).1
   have:=new h3 h5
   omega
  ·rfl
 ·intro k hk
  rcases Nat.lt_or_ge k E.n with h | h
  ·rw [gl h]; exact hR.one k h
  ·have:k=E.n:=by have:k<E.n+1:=hk; omega
   subst this
   rw [gn]
   exact hR2.one 0 (by rw [hn2]; exact Nat.one_pos)
 ·cases e with
  | returned y=>
   have ho:Rd E2 (.tup [.ref 0 0,.v x]) y:=ho
   cases ho with
   | tup vs hs hd=>
    refine .tup vs hs fun j d hj=>?_
    match j with
    | 0=>
     cases hj
     have h0:=hd 0 _ rfl
     generalize vs.getD 0 undef=v at h0
     cases h0 with
     | ref hk hg=>exact Rd.ref (by show om.length<E.n+1; rw [hR.len]; exact Nat.lt_succ_self _) (by rw [hR.len,gn]; exact hg)
    | 1=>
     cases hj
     rw [(hd 1 _ rfl).v_inv]
     exact .v _
    | j+2=>cases hj
  | _=>exact ho.elim
theorem AC.lendD {P:Program} {f:FuncId} {as ds:List D} {om:List Ob} {ty sz:Nat} {rows:List (List D)} (h:AC P f ds [] (newR (.slc ty sz rows))) (hv:CvL om (fun _=>true) [] as ds) (hp:∀ r∈rows,∀ d∈r,Plain d) :
  AC P f as om (retP (.sl sz rows) om):=by
 refine ⟨h.1,fun E vs hR hA=>?_⟩
 let E1:Env:=⟨0,E.g,fun b=>E.A b∨Live E om b,E.w⟩
 have ok:CvOk E E1 om (fun _=>true) []:=⟨fun b h=>.inl h,rfl,zb _,fun j k h=>by simp at h,fun j h=>by simp at h,fun k o b h1 h2 h3 h4=>.inr ⟨k,o,h1,h2,h4⟩⟩
 have hR1:Rel E1 []:=⟨rfl,fun k o h=>by simp at h,fun k k' o o' b h=>by simp at h,fun b hA=>hA.elim (hR.old b) fun hl=>(hR.live_lt hl).1,fun k hk=>absurd hk (za _),fun g c h=>Rd.bl (E:=E) (E2:=E1) (n:=0) (zc _) (fun _ h=>absurd h (za _)) (ok.A) rfl (hR.gt g c h) (gtab_bl h)⟩
 refine (h.2 E1 vs hR1 (rdA_of_cvL hR ok hv hA)).mono ?_
 rintro e w' ⟨E2,o2,om2,⟨rfl,rfl⟩,rfl,hx,hR2,ho⟩
 let E3:Env:=⟨E.n,E.g,fun b=>(E2.A b∧¬ Live E om b)∨Live E2 [.slc ty sz rows] b,E2.w⟩
 have noL:∀ b,¬ Live E1 [] b:=by rintro b ⟨k,o,h1,_⟩; simp at h1
 have kn:∀ {k:Nat} {o:Ob},om[k]? = some o→k<E.n:=fun h=>by rw [← hR.len]; exact (List.getElem?_eq_some_iff.1 h).1
 have new:∀ {b},Live E2 [.slc ty sz rows] b→E.w.heap.size≤b:=by
  intro b hl
  rcases hx.live b hl with h | h
  ·exact (noL b h).elim
  ·exact h
 have hx3:Ext E om E3 om:=by
  refine ⟨zb _,fun k hk=>rfl,fun b hA=>.inl ⟨hx.A b (.inl hA),hR.notlive hA⟩,hx.size,hx.os,hx.tape,hx.output,fun b hb' hn=>hx.keep b hb' (noL b),?_,?_⟩
  ·rintro b ⟨k,o,h1,h2,h3⟩
   exact .inl ⟨k,o,h1,h2,h3⟩
  ·rintro b (⟨hA,hnl⟩ | hl)
   ·rcases hx.newA b hA with hA | hA | hA
    ·rcases hA with hA | hA
     ·exact .inl hA
     ·exact (hnl hA).elim
    ·exact (noL b hA).elim
    ·exact .inr (.inr hA)
   ·exact .inr (.inr (new hl))
 refine ⟨E3,.ret (.sl sz rows),om,⟨rfl,rfl⟩,rfl,hx3,⟨hR.len,fun k o hk=>?_,hR.inj,?_,hR.one,fun g c h=>(hR.gt g c h).ext hR hx3⟩,?_⟩
 ·refine ObR.keep hR hx3 (kn hk) (hR.ob k o hk) fun hl b hbk=>?_
  have hlv:Live E om b:=⟨k,o,hk,hl,hbk⟩
  refine ⟨hx.keep b (hR.live_lt hlv).1 (noL b),?_⟩
  rintro (⟨_,hn⟩ | hn)
  ·exact hn hlv
  ·have:=new hn
   have:=(hR.live_lt hlv).1
   omega
 ·rintro b (⟨hA,_⟩ | hl)
  ·exact hR2.old b hA
  ·exact (hR2.live_lt hl).1
 ·cases e with
  | returned y=>
   have ho:Rd E2 (.own 0) y:=ho
   cases ho with
   | own hk=>
    obtain ⟨h0,hs,⟨e1,e2⟩ | ⟨b,cs,cap,q1,q2,q3,q4,q5,q6,q7⟩⟩:=hR2.ob 0 _ rfl
    ·subst e2
     show Rd E3 (.sl sz []) (E2.g 0)
     rw [e1]
     exact Rd.sl (rows:=[]) ⟨0,0,none⟩ (fun _=>.nilFunc) (by simp) (zb _) (zc _) (.inl rfl) (by simp) (by simp)
    ·show Rd E3 (.sl sz rows) (E2.g 0)
     rw [q1]
     refine Rd.sl_mk rfl hs (by omega) q6 (.inr ⟨⟨b,0,none⟩,rfl,.inr ⟨0,_,rfl,rfl,by rw [q1]; rfl⟩,fun i r' hi j d' hj=>?_⟩)
     obtain ⟨v,e1,e2,e3⟩:=q7 _ d' (flatten_get hs hi hj)
     refine ⟨v,?_,e2,(hp r' (List.mem_of_getElem? hi) d' (List.mem_of_getElem? hj)).rd e3⟩
     show E2.w.cell? _=_
     rw [add_mk,add_mk,cell_of_heap q2,Nat.zero_add]
     exact e1
  | _=>exact ho.elim
end Go.Proofs.YtbmedfjmccnclaaGreat.AWP
namespace Go.Proofs.YtbmedfjmccnclaaGreat.AWP
open Go
open _root_.List renaming mem_of_getElem? → za
section
variable {P:Program} {E E':Env} {ty:TypeId} {c:List D} {cs:List (List D)} {om om':List Ob}
theorem Live.alt {b:Nat}:Live E (.alt ty cs :: om) b↔Live E (.var ty c :: om) b:=by
 constructor
 ·rintro ⟨k,o,h1,h2,h3⟩
  match k with
  | 0=>cases h1; exact ⟨0,_,rfl,rfl,h3⟩
  | k+1=>exact ⟨k+1,o,h1,h2,h3⟩
 ·rintro ⟨k,o,h1,h2,h3⟩
  match k with
  | 0=>cases h1; exact ⟨0,_,rfl,rfl,h3⟩
  | k+1=>exact ⟨k+1,o,h1,h2,h3⟩
theorem Rel.var (h:Rel E (.alt ty cs :: om)):∃ c,c∈cs∧(∀ d∈c,Bl 0 d)∧Rel E (.var ty c :: om):=by
 obtain ⟨c,p1,p2,p3⟩:=h.ob 0 _ rfl
 refine ⟨c,p1,p2,h.len,fun k o hk=>?_,?_,h.old,h.one,h.gt⟩
 ·match k with
  | 0=>cases hk; exact p3
  | k+1=>exact h.ob (k+1) o hk
 ·intro k k' o o' b h1 h2 h3 h4 h5 h6
  have up:∀ (k:Nat) (o:Ob),(Ob.var ty c :: om)[k]? = some o→o.live=true→∃ o',(Ob.alt ty cs :: om)[k]? = some o'∧o'.live=true:=by
   intro k o hk hl
   match k with
   | 0=>exact ⟨_,rfl,rfl⟩
   | k+1=>exact ⟨o,hk,hl⟩
  obtain ⟨a,ha,hal⟩:=up k o h1 h3
  obtain ⟨a',ha',hal'⟩:=up k' o' h2 h4
  exact h.inj k k' a a' b ha ha' hal hal' h5 h6
theorem Rel.alt (h:Rel E (.var ty c :: om)) (hc:c∈cs) (hb':∀ d∈c,Bl 0 d):Rel E (.alt ty cs :: om):=by
 refine ⟨h.len,fun k o hk=>?_,?_,h.old,h.one,h.gt⟩
 ·match k with
  | 0=>cases hk; exact ⟨c,hc,hb',h.ob 0 _ rfl⟩
  | k+1=>exact h.ob (k+1) o hk
 ·intro k k' o o' b h1 h2 h3 h4 h5 h6
  have up:∀ (k:Nat) (o:Ob),(Ob.alt ty cs :: om)[k]? = some o→o.live=true→∃ o',(Ob.var ty c :: om)[k]? = some o'∧o'.live=true:=by
   intro k o hk hl
   match k with
   | 0=>exact ⟨_,rfl,rfl⟩
   | k+1=>exact ⟨o,hk,hl⟩
  obtain ⟨a,ha,hal⟩:=up k o h1 h3
  obtain ⟨a',ha',hal'⟩:=up k' o' h2 h4
  exact h.inj k k' a a' b ha ha' hal hal' h5 h6
theorem Ext.swapL {om1 om1':List Ob} (h:Ext E om E' om') (h1:∀ b,Live E om b↔Live E om1 b) (h2:∀ b,Live E' om' b↔Live E' om1' b):Ext E om1 E' om1':=
 ⟨h.n,h.g,h.A,h.size,h.os,h.tape,h.output,fun b hb hn=>h.keep b hb fun hl=>hn ((h1 b).1 hl),fun b hl=>((h.live b ((h2 b).2 hl)).imp_left (h1 b).1),fun b hA=>(h.newA b hA).imp_right (Or.imp_left (h1 b).1)⟩
theorem AC.alt {f:FuncId} {ds:List D} {o:Out} (hc:callOk P f=true) (hb:∀ c∈cs,∀ d∈c,Bl 0 d) (h:∀ c∈cs,AC P f ds (.var ty c :: om) (fun o' om'=>o'=o∧∃ c'∈cs,om'=.var ty c' :: om)) :
  AC P f ds (.alt ty cs :: om) (fun o' om'=>o'=o∧om'=.alt ty cs :: om):=by
 refine ⟨hc,fun E vs hR hA=>?_⟩
 obtain ⟨c,p1,p2,hR1⟩:=hR.var
 refine ((h c p1).2 E vs hR1 hA).mono ?_
 rintro e w' ⟨E',o',om',⟨rfl,c',hc',rfl⟩,hw,hx,hR',ho⟩
 exact ⟨E',_,_,⟨rfl,rfl⟩,hw,hx.swapL (fun b=>Live.alt.symm) (fun b=>Live.alt.symm),hR'.alt hc' (hb c' hc'),ho⟩
theorem AC.toAlt {f:FuncId} {ds:List D} {om0:List Ob} {R R':Out→List Ob→Prop} (h:AC P f ds om0 R) (hr:∀ o om',R o om'→R' o om'∨∃ ty c cs om,om'=.var ty c :: om∧c∈cs∧(∀ d∈c,Bl 0 d)∧R' o (.alt ty cs :: om)):AC P f ds om0 R':=by
 refine ⟨h.1,fun E vs hR hA=>(h.2 E vs hR hA).mono ?_⟩
 rintro e w' ⟨E',o',om',hR0,hw,hx,hR',ho⟩
 rcases hr _ _ hR0 with h1 | ⟨ty,c,cs,om,rfl,hc,hb,h1⟩
 ·exact ⟨E',_,_,h1,hw,hx,hR',ho⟩
 ·exact ⟨E',_,_,h1,hw,hx.swapL (fun b=>Iff.rfl) (fun b=>Live.alt.symm),hR'.alt hc hb,ho⟩
theorem AC.args {f:FuncId} {xs ds:List D} {R:Out→List Ob→Prop} (h:AC P f ds om R) (hv:CvL om (fun _=>false) ((List.range om.length).map some) xs ds):AC P f xs om R:=by
 refine ⟨h.1,fun E vs hR hA=>h.2 E vs hR (rdA_of_cvL (E':=E) hR ⟨fun b h=>h,rfl,by simp [hR.len],fun j k h=>?_,fun j h=>?_,fun k o b h1 h2 h3 h4=>by cases h3⟩ hv hA)⟩
 ·have hj:j<om.length:=by have:=(List.getElem?_eq_some_iff.1 h).1; simpa using this
  rw [List.getElem?_map,List.getElem?_range hj] at h
  simp only [Option.map_some,Option.some.injEq] at h
  rw [h]
 ·have hj:j<om.length:=by have:=(List.getElem?_eq_some_iff.1 h).1; simpa using this
  rw [List.getElem?_map,List.getElem?_range hj] at h
  simp at h
theorem AC.behind {f:FuncId} {ds:List D} {bk:List Ob} {r:D} (h:AC P f ds om (retP r om)) (hds:∀ d∈ds,Bl om.length d) (ho:∀ o∈om,ObAll (Bl om.length) o) (hr:Bl 0 r):AC P f ds (om++bk) (retP r (om++bk)):=by
 refine ⟨h.1,fun E vs hR hA=>?_⟩
 have hn:om.length+bk.length=E.n:=by rw [← hR.len]; simp
 let E1:Env:=⟨om.length,E.g,E.A,E.w⟩
 have rd1:∀ d,Bl om.length d→∀ y,Rd E d y→Rd E1 d y:=fun d hd y hy=>Rd.bl (E:=E) (E2:=E1) (n:=om.length) (Nat.le_refl _) (fun _ _=>rfl) (fun _ h=>h) rfl hy hd
 have sub:∀ {k:Nat} {o:Ob},om[k]? = some o→(om++bk)[k]? = some o:=fun {k o} hk=>by rw [List.getElem?_append_left (List.getElem?_eq_some_iff.1 hk).1]; exact hk
 have hR1:Rel E1 om:=by
  refine ⟨rfl,fun k o hk=>?_,fun k k' o o' b h1 h2=>hR.inj k k' o o' b (sub h1) (sub h2),hR.old,fun k hk=>hR.one k (by have:k<om.length:=hk; omega),fun g c h=>rd1 _ ((gtab_bl h).mono (Nat.zero_le _)) _ (hR.gt g c h)⟩
  exact ObR.via (E:=E) (k:=k) rfl (ho o (za hk)) rd1 (fun hl b hb=>⟨rfl,fun hA=>hR.notlive hA ⟨k,o,sub hk,hl,hb⟩⟩) (hR.ob k o (sub hk))
 refine (h.2 E1 vs hR1 ⟨hA.1,fun j d hj=>rd1 d (hds d (za hj)) _ (hA.2 j d hj)⟩).mono ?_
 rintro e w' ⟨E2,o2,om2,⟨rfl,rfl⟩,rfl,hx,hR2,hout⟩
 have hn2:E2.n=om2.length:=hR2.len.symm
 let E3:Env:=⟨E.n,E.g,E2.A,E2.w⟩
 have g2:∀ k,k<om2.length→E3.g k=E2.g k:=fun k hk=>(hx.g k hk).symm
 have lv:∀ b,Live E1 om2 b→Live E (om2++bk) b:=by
  rintro b ⟨k,o,h1,h2,h3⟩
  exact ⟨k,o,sub h1,h2,h3⟩
 have notA:∀ b,Live E (om2++bk) b→¬ E2.A b:=by
  intro b hl hA
  rcases hx.newA b hA with h1 | h1 | h1
  ·exact hR.notlive h1 hl
  ·obtain ⟨k,o,q1,q2,q3⟩:=h1
   exact hR2.notlive hA ⟨k,o,q1,q2,by rw [← g2 k (List.getElem?_eq_some_iff.1 q1).1]; exact q3⟩
  ·have h1:E.w.heap.size≤b:=h1
   have:=(hR.live_lt hl).1
   omega
 have hx3:Ext E (om2++bk) E3 (om2++bk):=
  ⟨Nat.le_refl _,fun _ _=>rfl,fun b hA=>hx.A b hA,hx.size,hx.os,hx.tape,hx.output,fun b hb hnl=>hx.keep b hb fun hl=>hnl (lv b hl),fun b hl=>.inl hl,fun b hA=>(hx.newA b hA).imp_right (Or.imp_left (lv b))⟩
 refine ⟨E3,_,_,⟨rfl,rfl⟩,rfl,hx3,⟨hR.len,fun k o hk=>?_,hR.inj,hR2.old,hR.one,fun g c h=>(hR.gt g c h).ext hR hx3⟩,?_⟩
 ·rcases Nat.lt_or_ge k om2.length with hlt | hge
  ·rw [List.getElem?_append_left hlt] at hk
   exact ObR.via (E:=E2) (k:=k) (g2 k hlt) (ho o (za hk)) (fun d hd y hy=>Rd.bl (E:=E2) (E2:=E3) (n:=om2.length) (by show om2.length≤E.n; omega) g2 (fun _ h=>h) rfl hy hd) (fun hl b hb=>⟨rfl,fun hA=>hR2.notlive hA ⟨k,o,hk,hl,hb⟩⟩) (hR2.ob k o hk)
  ·have hkl:k<E.n:=by rw [← hR.len]; exact (List.getElem?_eq_some_iff.1 hk).1
   refine ObR.keep hR hx3 hkl (hR.ob k o hk) fun hl b hbk=>⟨hx.keep b (hR.live_lt ⟨k,o,hk,hl,hbk⟩).1 ?_,notA b ⟨k,o,hk,hl,hbk⟩⟩
   rintro ⟨k',o',q1,q2,q3⟩
   have:=hR.inj k k' o o' b hk (sub q1) hl q2 hbk q3
   have:=(List.getElem?_eq_some_iff.1 q1).1
   omega
 ·cases e with
  | returned y=>exact Rd.bl (E:=E2) (E2:=E3) (n:=0) (Nat.zero_le _) (fun _ h=>absurd h (Nat.not_lt_zero _)) (fun _ h=>h) rfl (show Rd E2 r y from hout) hr
  | _=>exact hout.elim
end
end Go.Proofs.YtbmedfjmccnclaaGreat.AWP
