/- A contract in wider surroundings: other objects ahead and behind stay as they are. -/
import Derived.Test.YtbmedfjmccnclaaGreatEvalA
import Derived.Test.YtbmedfjmccnclaaGreatLogicC
import Derived.Test.YtbmedfjmccnclaaGreatLogicA
import Derived.Lib.SliceRun
set_option linter.unusedVariables false
set_option linter.unusedSimpArgs false
set_option linter.unusedSectionVars false
namespace Go.Proofs.YtbmedfjmccnclaaGreat.AWP
open Go
open _root_.Nat renaming le_refl → za
section
variable {P:Program} {T:Tab} {E:Env} {om:List Ob}
theorem run_sliceOwn (hT:TabOk P T) {t e:Nat} {i ei:TI} (ht:T t=some i) (hk:i.kd=.slice e) (he:T e=some ei) {a:Option Addr} {len cap:Nat} {lo hi:Option D} {ylo yhi:Option Value} {l h:Nat}
  (hlo:nat? lo 0=some l) (hhi:nat? hi len=some h) (h1:∀ d,lo=some d→∃ v,ylo=some v∧Rd E d v) (h1':lo=none→ylo=none)
  (h2:∀ d,hi=some d→∃ v,yhi=some v∧Rd E d v) (h2':hi=none→yhi=none) (hle:l≤h) (hc:h≤cap) (hlc:len≤cap) :
  (Instr.sliceAt t (.slice a len cap) ylo yhi none).run P E.w=.ok (.slice (if cap=l then a else a.map (·.add (l * ei.size))) (h - l) (cap - l)) E.w:=by
 have hu:=(hT _ _ ht).slice hk
 unfold Instr.sliceAt
 simp only [Sem.run_bind,run_underlying hu,Result.andThen_ok]
 unfold Instr.slice
 simp only [Sem.run_bind,run_underlying hu,Result.andThen_ok,bounds_ok (P:=P) (w:=E.w) (isSl:=true) hlo hhi h1 h1' h2 h2' hle hc hlc,(hT _ _ he).sizeOf,Sem.run_pure]
theorem OpX.cut (hT:TabOk P T) {dst:Option Tmp} {t e:Nat} {i ei:TI} {x y:Operand} {k sz ty h:Nat} {ik:IntKind} {rows:List (List D)} {s:St} {K:St→Prop} {KP:D→St→Prop} (ht:T t=some i) (hk:i.kd=.slice e) (he:T e=some ei)
  (hx:evD s.env x=.own k) (hy:evD s.env y=.v (.int ik h)) (ho:s.om[k]? = some (.slc ty sz rows)) (hh:h≤rows.length)
  (hK:K (St.put ⟨s.env,s.om.set k .dead++[.slc ty sz (rows.take h)]⟩ dst (.own s.om.length))):OpX P ⟨dst,.slice t x none (some y) none,none⟩ s K KP:=by
 intro lo E a oo next Q e0 hs
 simp only [lop,LOp.mk.injEq] at e0
 obtain ⟨d0,q0,g0⟩:=e0
 refine ⟨?_,?_⟩
 ·intro c hc
  rw [q0] at hc
  cases hc
 have hxv:=hs.ev x
 rw [hx] at hxv
 have hbe:a.eval x=E.g k:=by
  generalize a.eval x=z at hxv
  cases hxv with
  | own hk=>rfl
 have hyv:=hs.ev y
 rw [hy] at hyv
 obtain ⟨h0,hss,hh'⟩:=hs.rel.ob k _ ho
 obtain ⟨hR',hsub⟩:=hs.rel.kill k
 have hl:(s.om.set k Ob.dead).length=s.om.length:=by simp
 have hexec:execOp a.eval oo=(do pure (.value (← Instr.sliceAt t (a.eval x) none (some (a.eval y)) none)):Sem Next):=by
  simp only [execOp,q0,Option.map_none,Option.map_some]
 have hnat:nat? (some (D.v (.int ik h))) 0=some h:=by simp [nat?]
 have hargs:∀ d,(some (D.v (.int ik h)))=some d→∃ v,some (a.eval y)=some v∧Rd E d v:=fun d hd=>by cases hd; exact ⟨_,rfl,hyv⟩
 have hE:Eff P (Instr.sliceAt t (a.eval x) none (some (a.eval y)) none) E s.om (.own s.om.length) (s.om.set k .dead++[.slc ty sz (rows.take h)]):=by
  rw [hbe]
  rcases hh' with ⟨hg,hr⟩ | ⟨b,cs,cap,q1,q2,q3,q4,q5,q6,q7⟩
  ·subst hr
   simp only [List.length_nil,Nat.le_zero_eq] at hh
   subst hh
   have hrun:=run_sliceOwn (E:=E) hT ht hk he (a:=none) (len:=0) (cap:=0) (lo:=none) (hi:=some (D.v (.int ik (0:Nat)))) (ylo:=none) (yhi:=some (a.eval y)) (l:=0) (h:=0) rfl (by simp [nat?]) (by simp) (fun _=>rfl) hargs (by simp) (za _) (za _) (za _)
   rw [hg]
   obtain ⟨p1,p2,p3,_⟩:=push_ok' hs.rel hR' hsub none (fun b hb'=>by cases hb') (.slice none 0 0) E.w (.slc ty sz []) rfl (za _) rfl rfl rfl (fun b _ _=>rfl)
    (fun b _ hb'=>by simp [hb] at hb') (fun hx=>⟨h0,by simp,.inl ⟨by simp [Env.push],rfl⟩⟩)
   rw [hl] at p3
   exact ⟨E.push (.slice none 0 0) E.w,_,hrun,p1,p2,p3⟩
  ·have hrun:=run_sliceOwn (E:=E) hT ht hk he (a:=some ⟨b,0,none⟩) (len:=rows.length) (cap:=cap) (lo:=none) (hi:=some (D.v (.int ik h))) (ylo:=none) (yhi:=some (a.eval y)) (l:=0) (h:=h) rfl (by simp [nat?]) (by simp) (fun _=>rfl) hargs (by simp) (Nat.zero_le _) (by omega) q5
   have hv:(if cap=0 then some (⟨b,0,none⟩:Addr) else (some (⟨b,0,none⟩:Addr)).map (·.add (0 * ei.size)))=some ⟨b,0,none⟩:=by
    split
    ·rfl
    ·simp [Addr.add]
   rw [hv,Nat.sub_zero,Nat.sub_zero] at hrun
   rw [q1]
   have hgb:hb (E.g k)=some b:=by rw [q1]; rfl
   obtain ⟨p1,p2,p3,_⟩:=push_ok' hs.rel hR' hsub (some b) (fun b' hb'=>by cases hb'; exact hs.rel.killed ho rfl hgb) (.slice (some ⟨b,0,none⟩) h cap) E.w (.slc ty sz (rows.take h)) rfl (za _) rfl rfl rfl (fun b _ _=>rfl)
    (fun b' _ hb'=>by simp only [hb,Option.some.injEq] at hb'; exact .inr (by rw [hb']))
    (fun hx=>⟨h0,fun r hr=>hss r (List.mem_of_mem_take hr),.inr ⟨b,cs,cap,by simp [Env.push]; omega,q2,q3,q4,by simp; omega,q6,fun j d hj=>by
     have hj':rows.flatten[j]? = some d:=by
      have:(rows.take h).flatten++(rows.drop h).flatten=rows.flatten:=by rw [← List.flatten_append,List.take_append_drop]
      rw [← this,List.getElem?_append_left (List.getElem?_eq_some_iff.1 hj).1]
      exact hj
     obtain ⟨u,u1,u2,u3⟩:=q7 j d hj'
     exact ⟨u,u1,u2,u3.ext hs.rel hx⟩⟩⟩)
   rw [hl] at p3
   exact ⟨E.push (.slice (some ⟨b,0,none⟩) h cap) E.w,_,hrun,p1,p2,p3⟩
 rw [← d0] at hK
 exact Done.eff hs hexec hE hK
theorem ALW.regX {base:Nat} {reg:List LOp} {own:List Nat} {Q:AX→St→Prop} {s:St} (h:opsX P reg reg s (Q .norm) (fun d=>Q (.panic d))):ALW base P (.reg reg own none) Q s:=by
 intro c hc
 obtain ⟨id,ops,rfl,hops⟩:=reg_none (show lc c=.reg reg [] none from hc)
 exact AW.regionX reg hops h
theorem AC.lbodyA (hT : TabOk P T) {f : FuncId} {fn : Func} (hf : P.funcs[f]? = some fn) (hn : (fn.name == "runtime.NumGoroutine") = false) {l : LC} (hb : fn.body.map lc = some l.st) {rs : List ResultVar} (hrs : fn.results.toList = rs) {n : Nat} (hnt : fn.ntmps = n) {ds : List D} {R : Out → List Ob → Prop}
  (h:ALW om.length P l (finQ T rs om R) ⟨ds++List.replicate (n - ds.length) D.any,om⟩):AC P f ds om R:=by
 simp only [Option.map_eq_some_iff] at hb
 obtain ⟨c,hc,hl⟩:=hb
 exact AC.body hT hf hc hn hrs hnt (h c hl)
end
end Go.Proofs.YtbmedfjmccnclaaGreat.AWP
namespace Go.Proofs.YtbmedfjmccnclaaGreat.AWP
open Go
open _root_.List renaming getD_eq_getElem?_getD → za
theorem getD_setN {env:List D} {i j:Nat} {v d:D} (h:i≠j):(env.set i v).getD j d=env.getD j d:=by
 rw [za,za,List.getElem?_set_ne h]
theorem getD_setS {env:List D} {i:Nat} {v d:D} (h:i<env.length):(env.set i v).getD i d=v:=by
 rw [za,List.getElem?_set_self h]; rfl
theorem evD_tmp (env:List D) (t:Nat):evD env (.tmp t)=env.getD t .any:=rfl
def dstOf (reg:List LOp) (i:Nat):Option Nat:=(reg[i]?).bind (·.dst)
def dstOk (reg:List LOp) (n:Nat) (keep:List Nat):Bool:=
 (List.range reg.length).all fun i=>match dstOf reg i with
  | some t=>decide (t<n) && !keep.contains t && (List.range reg.length).all fun j=>decide (j=i) || !(dstOf reg j == some t)
  | none=>true
variable {P:Program} {T:Tab}
theorem free_gen {reg:List LOp} {own:List Nat} {ds:List (List Nat)} {E:List D} {om:List Ob} {K:St→Prop} {KP:D→St→Prop} (V:Nat→D) (keep:List Nat) (hd:dstOk reg E.length keep=true)
  (step:∀ (i:Nat) (o:LOp),reg[i]? = some o→∀ env':List D,env'.length=E.length→(∀ k∈keep,env'.getD k .any=E.getD k .any)→(∀ j∈ds.getD i [],∀ t,dstOf reg j=some t→env'.getD t .any=V j) →
   ∀ K':St→Prop,K' ((⟨env',om⟩:St).put o.dst (V i))→aop P T (own.contains i) o.op o.dst ⟨env',om⟩ K' KP)
  (fin:∀ env':List D,env'.length=E.length→(∀ k∈keep,env'.getD k .any=E.getD k .any)→(∀ i t,dstOf reg i=some t→env'.getD t .any=V i)→K ⟨env',om⟩) :
  treeP P T reg own (.free ds) ⟨E,om⟩ K KP:=by
 refine ⟨fun L s'=>s'.om=om∧s'.env.length=E.length∧(∀ k∈keep,s'.env.getD k .any=E.getD k .any)∧∀ i t,i<reg.length→L i=true→dstOf reg i=some t→s'.env.getD t .any=V i,
  ⟨rfl,rfl,fun _ _=>rfl,fun _ _ _ h=>by cases h⟩,?_,?_⟩
 ·rintro i o L ⟨env',om'⟩ hro hL hds ⟨h1,h2,h3,h4⟩ K' hK'
  dsimp only at h1 h2 h3 h4
  subst h1
  have hi:i<reg.length:=(List.getElem?_eq_some_iff.1 hro).1
  refine step i o hro env' h2 h3 (fun j hj t ht=>?_) K' (hK' _ ?_)
  ·have hjl:j<reg.length:=by
    unfold dstOf at ht
    cases e:reg[j]? with
    | none=>rw [e] at ht; cases ht
    | some _=>exact (List.getElem?_eq_some_iff.1 e).1
   exact h4 j t hjl (hds j hj) ht
  have hdi:dstOf reg i=o.dst:=by unfold dstOf; rw [hro]; rfl
  cases hdo:o.dst with
  | none=>
   refine ⟨rfl,h2,h3,fun j t hj hL' ht=>?_⟩
   by_cases e:j=i
   ·subst e; rw [hdi,hdo] at ht; cases ht
   ·exact h4 j t hj (by simpa [e] using hL') ht
  | some t0=>
   have ha:=List.all_eq_true.1 hd i (List.mem_range.2 hi)
   rw [hdi,hdo] at ha
   simp only [Bool.and_eq_true,decide_eq_true_eq] at ha
   obtain ⟨⟨ha1,ha2⟩,ha3⟩:=ha
   refine ⟨rfl,by simpa [St.put] using h2,fun k hk=>?_,fun j t hj hL' ht=>?_⟩
   ·have hne:t0≠k:=by
     intro e; subst e
     simp [hk] at ha2
    show (env'.set t0 (V i)).getD k .any=_
    rw [getD_setN hne]
    exact h3 k hk
   ·by_cases e:j=i
    ·subst e
     rw [hdi,hdo] at ht
     cases ht
     show (env'.set t0 (V j)).getD t0 .any=_
     exact getD_setS (by omega)
    ·have hb:=List.all_eq_true.1 ha3 j (List.mem_range.2 hj)
     have hne:t0≠t:=by
      intro e2; subst e2
      rw [ht] at hb
      simp [e] at hb
     show (env'.set t0 (V i)).getD t .any=_
     rw [getD_setN hne]
     exact h4 j t hj (by simpa [e] using hL') ht
 ·rintro L ⟨env',om'⟩ hall ⟨h1,h2,h3,h4⟩
  dsimp only at h1 h2 h3 h4
  subst h1
  refine fin env' h2 h3 fun i t ht=>?_
  have hil:i<reg.length:=by
   unfold dstOf at ht
   cases e:reg[i]? with
   | none=>rw [e] at ht; cases ht
   | some _=>exact (List.getElem?_eq_some_iff.1 e).1
  exact h4 i t hil (hall i hil) ht
end Go.Proofs.YtbmedfjmccnclaaGreat.AWP
namespace Go.Proofs.YtbmedfjmccnclaaGreat.AWP
open Go
variable {P:Program} {T:Tab}
theorem dst_keep {reg:List LOp} {n:Nat} {keep:List Nat} (hd:dstOk reg n keep=true) {i t:Nat} (ht:dstOf reg i=some t):t<n∧¬ t∈keep∧∀ j,dstOf reg j=some t→j=i:=by
 have hi:i<reg.length:=by
  unfold dstOf at ht
  cases e:reg[i]? with
  | none=>rw [e] at ht; cases ht
  | some _=>exact (List.getElem?_eq_some_iff.1 e).1
 have ha:=List.all_eq_true.1 hd i (List.mem_range.2 hi)
 rw [ht] at ha
 simp only [Bool.and_eq_true,decide_eq_true_eq] at ha
 obtain ⟨⟨ha1,ha2⟩,ha3⟩:=ha
 refine ⟨ha1,fun hk=>by simp [hk] at ha2,fun j hj=>?_⟩
 have hjl:j<reg.length:=by
  unfold dstOf at hj
  cases e:reg[j]? with
  | none=>rw [e] at hj; cases hj
  | some _=>exact (List.getElem?_eq_some_iff.1 e).1
 have hb:=List.all_eq_true.1 ha3 j (List.mem_range.2 hjl)
 rw [hj] at hb
 simpa using hb
theorem free_genJ {reg:List LOp} {own:List Nat} {ds:List (List Nat)} {E:List D} {om:List Ob} {K:St→Prop} {KP:D→St→Prop} (V:Nat→D) (keep sp:List Nat) (J:(Nat→Bool)→St→Prop) (hd:dstOk reg E.length keep=true)
  (h0:J (fun _=>false) ⟨E,om⟩)
  (mono:∀ (L L':Nat→Bool) (e e':List D) (om':List Ob),(∀ i∈sp,L' i=L i)→(∀ i∈sp,∀ t,dstOf reg i=some t→e'.getD t .any=e.getD t .any)→J L ⟨e,om'⟩→J L' ⟨e',om'⟩)
  (step:∀ (i:Nat) (o:LOp),reg[i]? = some o→∀ (L:Nat→Bool) (env':List D) (om':List Ob),env'.length=E.length→(∀ k∈keep,env'.getD k .any=E.getD k .any)→(∀ j∈ds.getD i [],L j=true)→L i=false →
   (∀ j∈ds.getD i [],sp.contains j=false→∀ t,dstOf reg j=some t→env'.getD t .any=V j)→J L ⟨env',om'⟩ →
   ∀ K':St→Prop,(sp.contains i=false→K' ((⟨env',om'⟩:St).put o.dst (V i))) →
    (sp.contains i=true→∀ s'':St,s''.env.length=E.length→(∀ k,dstOf reg i≠some k→s''.env.getD k .any=env'.getD k .any)→J (fun j=>if j=i then true else L j) s''→K' s'')→aop P T (own.contains i) o.op o.dst ⟨env',om'⟩ K' KP)
  (fin:∀ (L:Nat→Bool) (env':List D) (om':List Ob),(∀ i,i<reg.length→L i=true)→env'.length=E.length→(∀ k∈keep,env'.getD k .any=E.getD k .any)→(∀ i t,sp.contains i=false→dstOf reg i=some t→env'.getD t .any=V i)→J L ⟨env',om'⟩→K ⟨env',om'⟩) :
  treeP P T reg own (.free ds) ⟨E,om⟩ K KP:=by
 have lenOf:∀ {j t},dstOf reg j=some t→j<reg.length:=by
  intro j t ht
  unfold dstOf at ht
  cases e:reg[j]? with
  | none=>rw [e] at ht; cases ht
  | some _=>exact (List.getElem?_eq_some_iff.1 e).1
 refine ⟨fun L s'=>s'.env.length=E.length∧(∀ k∈keep,s'.env.getD k .any=E.getD k .any)∧(∀ i t,i<reg.length→L i=true→sp.contains i=false→dstOf reg i=some t→s'.env.getD t .any=V i)∧J L s',
  ⟨rfl,fun _ _=>rfl,fun _ _ _ h=>(by cases h),h0⟩,?_,?_⟩
 ·rintro i o L ⟨env',om'⟩ hro hL hds ⟨h2,h3,h4,h5⟩ K' hK'
  dsimp only at h2 h3 h4
  have hi:i<reg.length:=(List.getElem?_eq_some_iff.1 hro).1
  have hdi:dstOf reg i=o.dst:=by unfold dstOf; rw [hro]; rfl
  refine step i o hro L env' om' h2 h3 hds hL (fun j hj hsp t ht=>h4 j t (lenOf ht) (hds j hj) hsp ht) h5 K' (fun hsp=>hK' _ ?_) (fun hsp s'' g1 g2 g3=>hK' _ ?_)
  ·have hni:∀ j∈sp,j≠i:=by
    rintro j hj rfl
    rw [List.contains_iff_mem.2 hj] at hsp; cases hsp
   cases hdo:o.dst with
   | none=>
    refine ⟨h2,h3,fun j t hj hL' hsj ht=>?_,mono L _ env' _ om' (fun j hj=>if_neg (hni j hj)) (fun _ _ _ _=>rfl) h5⟩
    by_cases e:j=i
    ·subst e; rw [hdi,hdo] at ht; cases ht
    ·exact h4 j t hj (by simpa [e] using hL') hsj ht
   | some t0=>
    rw [hdo] at hdi
    obtain ⟨d1,d2,d3⟩:=dst_keep hd hdi
    refine ⟨by simpa [St.put] using h2,fun k hk=>?_,fun j t hj hL' hsj ht=>?_,mono L _ env' _ om' (fun j hj=>if_neg (hni j hj)) (fun j hj t ht=>?_) h5⟩
    ·show (env'.set t0 (V i)).getD k .any=_
     rw [getD_setN fun e:t0=k=>d2 (by rw [e]; exact hk)]
     exact h3 k hk
    ·by_cases e:j=i
     ·subst e
      rw [hdi] at ht
      cases ht
      show (env'.set t0 (V j)).getD t0 .any=_
      exact getD_setS (by omega)
     ·show (env'.set t0 (V i)).getD t .any=_
      rw [getD_setN fun e2:t0=t=>e (d3 j (by rw [e2]; exact ht))]
      exact h4 j t hj (by simpa [e] using hL') hsj ht
    ·show (env'.set t0 (V i)).getD t .any=_
     exact getD_setN fun e2:t0=t=>hni j hj (d3 j (by rw [e2]; exact ht))
  ·refine ⟨g1,fun k hk=>?_,fun j t hj hL' hsj ht=>?_,g3⟩
   ·rw [g2 k fun e=>(dst_keep hd e).2.1 hk]
    exact h3 k hk
   ·have e:j≠i:=by rintro rfl; rw [hsp] at hsj; cases hsj
    rw [g2 t fun e2=>e ((dst_keep hd e2).2.2 j ht)]
    exact h4 j t hj (by simpa [e] using hL') hsj ht
 ·rintro L ⟨env',om'⟩ hall ⟨h2,h3,h4,h5⟩
  exact fin L env' om' hall h2 h3 (fun i t hsp ht=>h4 i t (lenOf ht) (hall i (lenOf ht)) hsp ht) h5
end Go.Proofs.YtbmedfjmccnclaaGreat.AWP
namespace Go.Proofs.YtbmedfjmccnclaaGreat.AWP
open Go
theorem grow_okG {E:Env} {om:List Ob} (hR:Rel E om) {w':World} (hsz:E.w.heap.size≤w'.heap.size) (hold:∀ b,b<E.w.heap.size→w'.heap[b]? = E.w.heap[b]?) (h1:w'.os=E.w.os) (h2:w'.tape=E.w.tape) (h3:w'.output=E.w.output) :
  Ext E om { E with w:=w' } om∧Rel { E with w:=w' } om:=by
 have hx:Ext E om { E with w:=w' } om:=⟨Nat.le_refl _,fun _ _=>rfl,fun _ h=>h,hsz,h1,h2,h3,fun b hb _=>hold b hb,fun b hl=>.inl hl,fun b hA=>.inl hA⟩
 refine ⟨hx,hR.len,fun k o hk=>?_,hR.inj,fun b hA=>Nat.lt_of_lt_of_le (hR.old b hA) hsz,hR.one,fun g c h=>(hR.gt g c h).ext hR hx⟩
 refine ObR.keep hR hx (by rw [← hR.len]; exact (List.getElem?_eq_some_iff.1 hk).1) (hR.ob k o hk) fun hl b hb=>?_
 have:=hR.live_lt ⟨k,o,hk,hl,hb⟩
 exact ⟨hold b this.1,this.2⟩
end Go.Proofs.YtbmedfjmccnclaaGreat.AWP
namespace Go.Proofs.YtbmedfjmccnclaaGreat.AWP
open Go
def WkL:List D→List D→Prop
 | [],[]=>True
 | d :: e,d' :: e'=>(d'=.any∨d=d')∧WkL e e'
 | _,_=>False
theorem WkL.len:∀ {e e':List D},WkL e e'→e'.length=e.length
 | [],[],_=>rfl
 | d :: e,d' :: e',h=>by simp only [List.length_cons]; rw [h.2.len]
theorem WkL.get:∀ {e e':List D},WkL e e'→∀ (t:Nat),e'.getD t .any=.any∨e.getD t .any=e'.getD t .any
 | [],[],_,t=>by simp
 | d :: e,d' :: e',h,0=>by simpa using h.1
 | d :: e,d' :: e',h,t+1=>by simpa using h.2.get t
attribute [simp] WkL
theorem Mv.keep {base:Nat} {env env':List D} {om:List Ob} (h:WkL env env'):Mv base ⟨env,om⟩ ⟨env',om⟩:=by
 intro lo E a hb hs
 refine ⟨E,rfl,(Ext.refl _ _).toB hb,hs.rel,hs.defs,by rw [hs.size]; exact h.len.symm,fun t=>?_⟩
 show Rd E (env'.getD t .any) _
 rcases h.get t with h | h
 ·rw [h]; exact .any _
 ·rw [← h]; exact hs.rd t
end Go.Proofs.YtbmedfjmccnclaaGreat.AWP
namespace Go.Proofs.YtbmedfjmccnclaaGreat.AWP
open Go
section
variable {P:Program} {T:Tab}
theorem OpX.eqNil (hT:TabOk P T) {dst:Option Tmp} {t ty' e:Nat} {i:TI} {x:Operand} {sz:Nat} {rows:List (List D)} {s:St} {K:St→Prop} {KP:D→St→Prop} (ht:T t=some i) (hk:i.kd=.slice e)
  (hx:evD s.env x=.sl sz rows) (h1:rows=[]→K (s.put dst (.b true))) (h0:K (s.put dst (.b false))):OpX P ⟨dst,.binOp .eql t x (.const (.slice none 0 0)) ty',none⟩ s K KP:=by
 intro lo E a oo next Q e0 hs
 simp only [lop,LOp.mk.injEq] at e0
 obtain ⟨d0,q0,g0⟩:=e0
 refine ⟨?_,?_⟩
 ·intro c hc
  rw [q0] at hc
  cases hc
 have hxv:=hs.ev x
 rw [hx] at hxv
 have hexec:execOp a.eval oo=(do pure (.value (← (do eqGuard .eql t x (.const (.slice none 0 0)) (a.eval x) (.slice none 0 0); binOp .eql t (a.eval x) (.slice none 0 0):Sem Value))):Sem Next):=by
  simp only [execOp,q0]; rfl
 have key:∃ b:Bool,(b=true→rows=[])∧Eff P (do eqGuard .eql t x (.const (.slice none 0 0)) (a.eval x) (.slice none 0 0); binOp .eql t (a.eval x) (.slice none 0 0):Sem Value) E s.om (.b b) s.om:=by
  generalize a.eval x=y at hxv
  cases hxv with
  | @sl _ _ ao cap ad u hr hl hm ha hc hd=>
   refine ⟨ao.isNone,fun hn=>?_,E,_,(?_:_=Result.ok (.bool ao.isNone) E.w),Ext.refl _ _,hs.rel,.v _⟩
   ·rcases ha with rfl | ⟨rfl,_⟩
    ·rfl
    ·cases hn
   ·have hg:(eqGuard .eql t x (.const (.slice none 0 0)) (.slice ao rows.length cap) (.slice none 0 0)).run P E.w=.ok () E.w:=by simp [eqGuard]
    simp only [Sem.run_bind,hg,Result.andThen_ok]
    exact Go.Lib.run_eql_slice_nil E.w t e ao rows.length cap 0 0 ((hT _ _ ht).slice hk)
 obtain ⟨b,hb,hE⟩:=key
 have hK:K (s.put dst (.b b)):=by
  cases b with
  | true=>exact h1 (hb rfl)
  | false=>exact h0
 rw [← d0] at hK
 exact Done.eff hs hexec hE hK
end
end Go.Proofs.YtbmedfjmccnclaaGreat.AWP
namespace Go.Proofs.YtbmedfjmccnclaaGreat.AWP
open Go
open _root_.Nat renaming not_lt_zero → za
def ShA (c:Nat) (d d':D):Prop:=(Bl 0 d∧d'=d)∨∃ k off,d=.ref k off∧d'=.ref (c+k) off
def OutBl:Out→Prop
 | .ret d=>Bl 0 d
 | .panic d=>Bl 0 d
theorem AC.shift {P:Program} {f:FuncId} {ds ds':List D} {om fr:List Ob} {R:Out→List Ob→Prop} (h:AC P f ds om R) (hlen:ds'.length=ds.length)
  (hds:∀ (j:Nat) (d d':D),ds[j]? = some d→ds'[j]? = some d'→ShA fr.length d d') (ho:∀ o∈om,ObAll (Bl 0) o)
  (hl:∀ o om',R o om'→om'.length=om.length∧OutBl o∧∀ x∈om',ObAll (Bl 0) x):AC P f ds' (fr++om) fun o om2=>∃ om',R o om'∧om2=fr++om':=by
 refine ⟨h.1,fun E vs hR hA=>?_⟩
 have hn:fr.length+om.length=E.n:=by rw [← hR.len]; simp
 let E1:Env:=⟨om.length,fun k=>E.g (fr.length+k),E.A,E.w⟩
 have rd1:∀ d,Bl 0 d→∀ y,Rd E d y→Rd E1 d y:=fun d hd y hy=>Rd.bl (E:=E) (E2:=E1) (n:=0) (Nat.zero_le _) (fun _ h=>absurd h (za _)) (fun _ h=>h) rfl hy hd
 have sub:∀ {k:Nat} {o:Ob},om[k]? = some o→(fr++om)[fr.length+k]? = some o:=fun {k o} hk=>by rw [List.getElem?_append_right (by omega)]; simpa using hk
 have sub2:∀ {k:Nat} {o:Ob},fr[k]? = some o→(fr++om)[k]? = some o:=fun {k o} hk=>by rw [List.getElem?_append_left (List.getElem?_eq_some_iff.1 hk).1]; exact hk
 have hR1:Rel E1 om:=by
  refine ⟨rfl,fun k o hk=>?_,fun k k' o o' b hk hk' hl hl' hb hb'=>?_,hR.old,fun k hk=>hR.one _ (by show fr.length+k<E.n; have:k<om.length:=hk; omega),fun g c h=>rd1 _ (gtab_bl h) _ (hR.gt g c h)⟩
  ·exact ObR.via (E:=E) (k:=fr.length+k) rfl (ho o (List.mem_of_getElem? hk)) rd1 (fun hl b hb=>⟨rfl,fun hA=>hR.notlive hA ⟨_,o,sub hk,hl,hb⟩⟩) (hR.ob _ o (sub hk))
  ·have:=hR.inj _ _ o o' b (sub hk) (sub hk') hl hl' hb hb'
   omega
 have rdA:∀ d d' y,ShA fr.length d d'→Rd E d' y→(∀ k off,d=.ref k off→fr.length+k<E.n)→Rd E1 d y:=by
  rintro d d' y (⟨h1,rfl⟩ | ⟨k,off,rfl,rfl⟩) hy hk
  ·exact rd1 _ h1 _ hy
  ·cases hy with
   | ref hk' hg=>exact .ref (by show k<om.length; omega) hg
 have kk:∀ d d' y,ShA fr.length d d'→Rd E d' y→∀ k off,d=.ref k off→fr.length+k<E.n:=by
  rintro d d' y (⟨h1,rfl⟩ | ⟨k,off,rfl,rfl⟩) hy k' off' e
  ·subst e; cases h1 with | ref h=>exact absurd h (za _)
  ·cases e
   cases hy with
   | ref hk' hg=>exact hk'
 refine (h.2 E1 vs hR1 ⟨by rw [hA.1,hlen],fun j d hj=>?_⟩).mono ?_
 ·have hj':j<ds'.length:=by rw [hlen]; exact (List.getElem?_eq_some_iff.1 hj).1
  have hs:=hds j d ds'[j] hj (List.getElem?_eq_getElem hj')
  have hy:=hA.2 j _ (List.getElem?_eq_getElem hj')
  exact rdA _ _ _ hs hy (kk _ _ _ hs hy)
 rintro e w' ⟨E',o,om',hr,rfl,hx,hR',hO⟩
 obtain ⟨hlen',hob,hoa⟩:=hl o om' hr
 have hn':E'.n=om.length:=by rw [← hR'.len,hlen']
 let E2:Env:=⟨E.n,E.g,E'.A,E'.w⟩
 have hg:∀ k,k<E'.n→E2.g (fr.length+k)=E'.g k:=fun k hk=>(hx.g k (by show k<om.length; omega)).symm
 have rd2:∀ d,Bl 0 d→∀ y,Rd E' d y→Rd E2 d y:=fun d hd y hy=>Rd.bl (E:=E') (E2:=E2) (n:=0) (Nat.zero_le _) (fun _ h=>absurd h (za _)) (fun _ h=>h) rfl hy hd
 have live1:∀ {b},Live E1 om b→Live E (fr++om) b:=by
  rintro b ⟨k,o,hk,hl,hb⟩
  exact ⟨_,o,sub hk,hl,hb⟩
 have sep:∀ {k o b},fr[k]? = some o→o.live=true→hb (E.g k)=some b→¬ Live E1 om b:=by
  rintro k o b hk hl hb ⟨k',o',hk',hl',hb'⟩
  have:=hR.inj _ _ _ _ b (sub2 hk) (sub hk') hl hl' hb hb'
  have:=(List.getElem?_eq_some_iff.1 hk).1
  omega
 have lt:∀ {k o b},fr[k]? = some o→o.live=true→hb (E.g k)=some b→b<E.w.heap.size∧¬ E.A b:=fun hk hl hb=>hR.live_lt ⟨_,_,sub2 hk,hl,hb⟩
 have rd3:∀ d y,Rd E d y→Rd E2 d y:=fun d y hy=>Rd.gen (E:=E) (E':=E2) (Nat.le_refl _) (fun _ _=>rfl) hx.A (h:=hy) fun a hA=>World.cell?_of_block (hx.keep _ (hR.old _ hA) fun hL=>hR.notlive hA (live1 hL))
 have cases2:∀ {k o},(fr++om')[k]? = some o→(∃ j,k=fr.length+j∧j<om.length∧om'[j]? = some o)∨(k<fr.length∧fr[k]? = some o):=by
  intro k o hk
  rcases getElem?_app hk with ⟨h1,h2⟩ | ⟨h1,h2⟩
  ·exact .inr ⟨h1,h2⟩
  ·exact .inl ⟨k - fr.length,by omega,by have:=(List.getElem?_eq_some_iff.1 h2).1; omega,h2⟩
 have live':∀ {k o b},om'[k]? = some o→o.live=true→hb (E.g (fr.length+k))=some b→Live E' om' b:=by
  intro k o b hk hl hb
  refine ⟨k,o,hk,hl,?_⟩
  rw [hx.g k (by have:=(List.getElem?_eq_some_iff.1 hk).1; show k<om.length; omega)]
  exact hb
 have mix:∀ {k j o o' b},om'[k]? = some o→o.live=true→hb (E.g (fr.length+k))=some b→fr[j]? = some o'→o'.live=true→hb (E.g j)=some b→False:=by
  intro k j o o' b hk hl hb hj hl' hb'
  rcases hx.live b (live' hk hl hb) with h | h
  ·exact sep hj hl' hb' h
  ·have:=(lt hj hl' hb').1
   have h:E.w.heap.size≤b:=h
   omega
 refine ⟨E2,o,fr++om',⟨om',hr,rfl⟩,rfl,?_,?_,?_⟩
 ·refine ⟨Nat.le_refl _,fun _ _=>rfl,hx.A,hx.size,hx.os,hx.tape,hx.output,fun b hb hn=>hx.keep b hb fun hL=>hn (live1 hL),?_,fun b hA=>?_⟩
  ·rintro b ⟨k,o,hk,hl,hb⟩
   rcases cases2 hk with ⟨j,rfl,_,h2⟩ | ⟨_,h2⟩
   ·exact (hx.live b (live' h2 hl hb)).imp live1 id
   ·exact .inl ⟨_,_,sub2 h2,hl,hb⟩
  ·exact (hx.newA b hA).imp id fun h=>h.imp live1 id
 ·refine ⟨by simp [hlen']; exact hn,fun k o hk=>?_,fun k k' o o' b hk hk' hl hl' hb hb'=>?_,hR'.old,hR.one,fun g c h=>rd2 _ (gtab_bl h) _ (hR'.gt g c h)⟩
  ·rcases cases2 hk with ⟨j,rfl,h1,h2⟩ | ⟨h1,h2⟩
   ·refine ObR.via (E:=E') (k:=j) (p:=Bl 0) (hg j (by omega)) (hoa _ (List.mem_of_getElem? h2)) (fun d hd y=>rd2 d hd y) (fun hl b hb=>⟨rfl,?_⟩) (hR'.ob j o h2)
    exact (hR'.live_lt ⟨j,o,h2,hl,hb⟩).2
   ·refine ObR.via (E:=E) (k:=k) rfl ObAll.triv (fun d _ y=>rd3 d y) (fun hl b hb=>?_) (hR.ob _ o (sub2 h2))
    have h3:=lt h2 hl hb
    have h4:=sep h2 hl hb
    refine ⟨hx.keep b h3.1 h4,fun hA=>?_⟩
    rcases hx.newA b hA with h | h | h
    ·exact h3.2 h
    ·exact h4 h
    ·have h:E.w.heap.size≤b:=h
     omega
  ·rcases cases2 hk with ⟨j,rfl,h1,h2⟩ | ⟨h1,h2⟩ <;> rcases cases2 hk' with ⟨j',rfl,h1',h2'⟩ | ⟨h1',h2'⟩
   ·exact congrArg (fr.length + ·) (hR'.inj j j' o o' b h2 h2' hl hl' (by rw [← hg j (by omega)]; exact hb) (by rw [← hg j' (by omega)]; exact hb'))
   ·exact (mix h2 hl hb h2' hl' hb').elim
   ·exact (mix h2' hl' hb' h2 hl hb).elim
   ·exact hR.inj _ _ _ _ b (sub2 h2) (sub2 h2') hl hl' hb hb'
 ·cases o <;> cases e <;> simp only [OutR] at hO ⊢
  ·exact rd2 _ hob _ hO
  ·obtain ⟨y,h1,h2⟩:=hO
   exact ⟨y,h1,rd2 _ hob _ h2⟩
end Go.Proofs.YtbmedfjmccnclaaGreat.AWP
namespace Go.Proofs.YtbmedfjmccnclaaGreat.AWP
open Go
open _root_.List renaming getElem?_append_right → za, append_assoc → zb, length_append → zc
theorem AC.shiftM {P:Program} {f:FuncId} {ds ds':List D} {om fr bk:List Ob} {R:Out→List Ob→Prop} (h:AC P f ds om R) (hlen:ds'.length=ds.length)
  (hds:∀ (j:Nat) (d d':D),ds[j]? = some d→ds'[j]? = some d'→ShA fr.length d d') (hrf:∀ (j k off:Nat),ds[j]? = some (.ref k off)→k<om.length) (ho:∀ o∈om,ObAll (Bl 0) o)
  (hl:∀ o om',R o om'→om'.length=om.length∧OutBl o∧∀ x∈om',ObAll (Bl 0) x):AC P f ds' (fr++om++bk) fun o om2=>∃ om',R o om'∧om2=fr++om'++bk:=by
 refine ⟨h.1,fun E vs hR hA=>?_⟩
 have hn:fr.length+om.length+bk.length=E.n:=by rw [← hR.len]; simp only [zc]
 let E1:Env:=⟨om.length,fun k=>E.g (fr.length+k),E.A,E.w⟩
 have rd1:∀ d,Bl 0 d→∀ y,Rd E d y→Rd E1 d y:=fun d hd y hy=>Rd.bl (E:=E) (E2:=E1) (n:=0) (Nat.zero_le _) (fun _ h=>absurd h (Nat.not_lt_zero _)) (fun _ h=>h) rfl hy hd
 have sub:∀ {k:Nat} {o:Ob},om[k]? = some o→(fr++om++bk)[fr.length+k]? = some o:=fun {k o} hk=>by
  have:=(List.getElem?_eq_some_iff.1 hk).1
  rw [zb,za (by omega),List.getElem?_append_left (by omega)]; simpa using hk
 let Oth:Nat→Ob→Prop:=fun k o=>(fr++om++bk)[k]? = some o∧¬ (fr.length≤k∧k<fr.length+om.length)
 have sub2:∀ {k:Nat} {o:Ob},Oth k o→(fr++om++bk)[k]? = some o:=fun {k o} hk=>hk.1
 have hR1:Rel E1 om:=by
  refine ⟨rfl,fun k o hk=>?_,fun k k' o o' b hk hk' hl hl' hb hb'=>?_,hR.old,fun k hk=>hR.one _ (by show fr.length+k<E.n; have:k<om.length:=hk; omega),fun g c h=>rd1 _ (gtab_bl h) _ (hR.gt g c h)⟩
  ·exact ObR.via (E:=E) (k:=fr.length+k) rfl (ho o (List.mem_of_getElem? hk)) rd1 (fun hl b hb=>⟨rfl,fun hA=>hR.notlive hA ⟨_,o,sub hk,hl,hb⟩⟩) (hR.ob _ o (sub hk))
  ·have:=hR.inj _ _ o o' b (sub hk) (sub hk') hl hl' hb hb'
   omega
 have rdA:∀ d d' y,ShA fr.length d d'→Rd E d' y→(∀ k off,d=.ref k off→k<om.length)→Rd E1 d y:=by
  rintro d d' y (⟨h1,rfl⟩ | ⟨k,off,rfl,rfl⟩) hy hk
  ·exact rd1 _ h1 _ hy
  ·cases hy with
   | ref hk' hg=>exact .ref (hk k off rfl) hg
 refine (h.2 E1 vs hR1 ⟨by rw [hA.1,hlen],fun j d hj=>?_⟩).mono ?_
 ·have hj':j<ds'.length:=by rw [hlen]; exact (List.getElem?_eq_some_iff.1 hj).1
  have hs:=hds j d ds'[j] hj (List.getElem?_eq_getElem hj')
  have hy:=hA.2 j _ (List.getElem?_eq_getElem hj')
  exact rdA _ _ _ hs hy fun k off e=>hrf j k off (by rw [hj,e])
 rintro e w' ⟨E',o,om',hr,rfl,hx,hR',hO⟩
 obtain ⟨hlen',hob,hoa⟩:=hl o om' hr
 have hn':E'.n=om.length:=by rw [← hR'.len,hlen']
 let E2:Env:=⟨E.n,E.g,E'.A,E'.w⟩
 have hg:∀ k,k<E'.n→E2.g (fr.length+k)=E'.g k:=fun k hk=>(hx.g k (by show k<om.length; omega)).symm
 have rd2:∀ d,Bl 0 d→∀ y,Rd E' d y→Rd E2 d y:=fun d hd y hy=>Rd.bl (E:=E') (E2:=E2) (n:=0) (Nat.zero_le _) (fun _ h=>absurd h (Nat.not_lt_zero _)) (fun _ h=>h) rfl hy hd
 have live1:∀ {b},Live E1 om b→Live E (fr++om++bk) b:=by
  rintro b ⟨k,o,hk,hl,hb⟩
  exact ⟨_,o,sub hk,hl,hb⟩
 have sep:∀ {k o b},Oth k o→o.live=true→hb (E.g k)=some b→¬ Live E1 om b:=by
  rintro k o b hk hl hb ⟨k',o',hk',hl',hb'⟩
  have:=hR.inj _ _ _ _ b (sub2 hk) (sub hk') hl hl' hb hb'
  have:=hk.2
  have:=(List.getElem?_eq_some_iff.1 hk').1
  omega
 have lt:∀ {k o b},Oth k o→o.live=true→hb (E.g k)=some b→b<E.w.heap.size∧¬ E.A b:=fun hk hl hb=>hR.live_lt ⟨_,_,sub2 hk,hl,hb⟩
 have rd3:∀ d y,Rd E d y→Rd E2 d y:=fun d y hy=>Rd.gen (E:=E) (E':=E2) (Nat.le_refl _) (fun _ _=>rfl) hx.A (h:=hy) fun a hA=>World.cell?_of_block (hx.keep _ (hR.old _ hA) fun hL=>hR.notlive hA (live1 hL))
 have cases2:∀ {k o},(fr++om'++bk)[k]? = some o→(∃ j,k=fr.length+j∧j<om.length∧om'[j]? = some o)∨Oth k o:=by
  intro k o hk
  rw [zb] at hk
  rcases getElem?_app hk with ⟨h1,h2⟩ | ⟨h1,h2⟩
  ·refine .inr ⟨?_,by omega⟩
   rw [zb,List.getElem?_append_left h1]; exact h2
  ·rcases getElem?_app h2 with ⟨h3,h4⟩ | ⟨h3,h4⟩
   ·exact .inl ⟨k - fr.length,by omega,by omega,h4⟩
   ·refine .inr ⟨?_,by omega⟩
    rw [zb,za h1,za (by omega),← hlen']
    exact h4
 have live':∀ {k o b},om'[k]? = some o→o.live=true→hb (E.g (fr.length+k))=some b→Live E' om' b:=by
  intro k o b hk hl hb
  refine ⟨k,o,hk,hl,?_⟩
  rw [hx.g k (by have:=(List.getElem?_eq_some_iff.1 hk).1; show k<om.length; omega)]
  exact hb
 have mix:∀ {k j o o' b},om'[k]? = some o→o.live=true→hb (E.g (fr.length+k))=some b→Oth j o'→o'.live=true→hb (E.g j)=some b→False:=by
  intro k j o o' b hk hl hb hj hl' hb'
  rcases hx.live b (live' hk hl hb) with h | h
  ·exact sep hj hl' hb' h
  ·have:=(lt hj hl' hb').1
   have h:E.w.heap.size≤b:=h
   omega
 refine ⟨E2,o,fr++om'++bk,⟨om',hr,rfl⟩,rfl,?_,?_,?_⟩
 ·refine ⟨Nat.le_refl _,fun _ _=>rfl,hx.A,hx.size,hx.os,hx.tape,hx.output,fun b hb hn=>hx.keep b hb fun hL=>hn (live1 hL),?_,fun b hA=>?_⟩
  ·rintro b ⟨k,o,hk,hl,hb⟩
   rcases cases2 hk with ⟨j,rfl,_,h2⟩ | h2
   ·exact (hx.live b (live' h2 hl hb)).imp live1 id
   ·exact .inl ⟨_,_,sub2 h2,hl,hb⟩
  ·exact (hx.newA b hA).imp id fun h=>h.imp live1 id
 ·refine ⟨by show _=E.n; rw [zc,zc,hlen']; exact hn,fun k o hk=>?_,fun k k' o o' b hk hk' hl hl' hb hb'=>?_,hR'.old,hR.one,fun g c h=>rd2 _ (gtab_bl h) _ (hR'.gt g c h)⟩
  ·rcases cases2 hk with ⟨j,rfl,h1,h2⟩ | h2
   ·refine ObR.via (E:=E') (k:=j) (p:=Bl 0) (hg j (by omega)) (hoa _ (List.mem_of_getElem? h2)) (fun d hd y=>rd2 d hd y) (fun hl b hb=>⟨rfl,?_⟩) (hR'.ob j o h2)
    exact (hR'.live_lt ⟨j,o,h2,hl,hb⟩).2
   ·refine ObR.via (E:=E) (k:=k) rfl ObAll.triv (fun d _ y=>rd3 d y) (fun hl b hb=>?_) (hR.ob _ o (sub2 h2))
    have h3:=lt h2 hl hb
    have h4:=sep h2 hl hb
    refine ⟨hx.keep b h3.1 h4,fun hA=>?_⟩
    rcases hx.newA b hA with h | h | h
    ·exact h3.2 h
    ·exact h4 h
    ·have h:E.w.heap.size≤b:=h
     omega
  ·rcases cases2 hk with ⟨j,rfl,h1,h2⟩ | h2 <;> rcases cases2 hk' with ⟨j',rfl,h1',h2'⟩ | h2'
   ·exact congrArg (fr.length + ·) (hR'.inj j j' o o' b h2 h2' hl hl' (by rw [← hg j (by omega)]; exact hb) (by rw [← hg j' (by omega)]; exact hb'))
   ·exact (mix h2 hl hb h2' hl' hb').elim
   ·exact (mix h2' hl' hb' h2 hl hb).elim
   ·exact hR.inj _ _ _ _ b (sub2 h2) (sub2 h2') hl hl' hb hb'
 ·cases o <;> cases e <;> simp only [OutR] at hO ⊢
  ·exact rd2 _ hob _ hO
  ·obtain ⟨y,h1,h2⟩:=hO
   exact ⟨y,h1,rd2 _ hob _ h2⟩
end Go.Proofs.YtbmedfjmccnclaaGreat.AWP
