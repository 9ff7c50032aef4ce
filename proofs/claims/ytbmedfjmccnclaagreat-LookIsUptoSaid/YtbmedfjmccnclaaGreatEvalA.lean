/- An evaluator over data, proved right by the walk's rules: operations and regions. -/
import Derived.Test.YtbmedfjmccnclaaGreatLogicC
set_option linter.unusedVariables false
set_option linter.unusedSimpArgs false
set_option linter.unusedSectionVars false
namespace Go.Proofs.YtbmedfjmccnclaaGreat.AWP
open Go
inductive ER where
 | go (s:St)
 | pan (d:D) (s:St)
abbrev EV:=Bool→Nat→List D→List Ob→Option (Out × List Ob)
abbrev exQ (r:Out × List Ob):Out→List Ob→Prop:=fun o om=>o=r.1∧om=r.2
structure EVok (P:Program) (F:EV):Prop where
 call:∀ f ds om r,F true f ds om=some r→AC P f ds om (exQ r)
 yld:∀ k ds om r,F false k ds om=some r→AY P k ds om (exQ r)
section
variable {om:List Ob} {F:Nat→Bool} {ks:List (Option Nat)}
def CvRs (om:List Ob) (F:Nat→Bool) (ks:List (Option Nat)):List (List D)→List (List D)→Prop
 | [],[]=>True
 | r :: l,r' :: l'=>CvL om F ks r r'∧CvRs om F ks l l'
 | _,_=>False
theorem CvRs.len:∀ {e e':List (List D)},CvRs om F ks e e'→e'.length=e.length
 | [],[],_=>rfl
 | d :: e,d' :: e',h=>by simp only [List.length_cons]; rw [h.2.len]
theorem CvRs.get:∀ {e e':List (List D)},CvRs om F ks e e'→∀ (j:Nat) (d d':List D),e[j]? = some d→e'[j]? = some d'→CvL om F ks d d'
 | [],[],_,j,d,d',h1,h2=>by simp at h1
 | d :: e,d' :: e',h,0,x,x',h1,h2=>by
  simp only [List.getElem?_cons_zero,Option.some.injEq] at h1 h2
  subst h1; subst h2
  exact h.1
 | d :: e,d' :: e',h,j+1,x,x',h1,h2=>by
  simp only [List.getElem?_cons_succ] at h1 h2
  exact h.2.get j x x' h1 h2
theorem CvRs.hr {e e':List (List D)} (h:CvRs om F ks e e'):∀ (i:Nat) (r r':List D),e[i]? = some r→e'[i]? = some r'→r'.length=r.length:=fun i r r' h1 h2=>(h.get i r r' h1 h2).len
theorem CvRs.hc {e e':List (List D)} (h:CvRs om F ks e e'):∀ (i:Nat) (r r':List D) (j:Nat) (d d':D),e[i]? = some r→e'[i]? = some r'→r[j]? = some d→r'[j]? = some d'→Cv om F ks d d':=fun i r r' j d d' h1 h2 h3 h4=>(h.get i r r' h1 h2).get j d d' h3 h4
end
section
variable {om:List Ob} {n:Nat}
end
theorem AC.fin {P:Program} {f:FuncId} {ds:List D} {om:List Ob} {r:Out × List Ob} {R:Out→List Ob→Prop} (h:AC P f ds om (exQ r)) (hf:Fin om r.2 r.1 R):AC P f ds om R:=by
 refine ⟨h.1,fun E vs hR hA=>(h.2 E vs hR hA).mono ?_⟩
 rintro e w' ⟨E1,o,om1,⟨rfl,rfl⟩,rfl,hx,hR1,ho⟩
 obtain ⟨E2,o2,om2,q1,q2,q3,q4,q5⟩:=hf E E1 e hR hx hR1 ho
 exact ⟨E2,o2,om2,q1,q2,q3,q4,q5⟩
end Go.Proofs.YtbmedfjmccnclaaGreat.AWP
namespace Go.Proofs.YtbmedfjmccnclaaGreat.AWP
open Go
open _root_.List renaming range' → za
section
variable {P:Program} {T:Tab} {F:EV}
def OpX (P:Program) (o:LOp) (s:St) (K:St→Prop) (KP:D→St→Prop):Prop:=
 ∀ (lo:Lo) (E:Env) (a:Act) (oo:Oper) (next:Act→World→Prop) (Q:Exit→Act→World→Prop),lop oo=o→Sat lo E s a→notDefer oo∧Done lo P oo a E s K KP next Q
theorem OpX.aop (hT:TabOk P T) {own:Bool} {o:LOp} {s:St} {K:St→Prop} {KP:D→St→Prop} (h:aop P T own o.op o.dst s K KP):OpX P o s K KP:=by
 intro lo E a oo next Q e hs
 subst e
 exact ⟨aop_notDefer h,aop_ok hT own hs h⟩
theorem OpX.o {o:LOp} {s:St} {K:St→Prop} {KP:D→St→Prop} (h:OpO P o s K):OpX P o s K KP:=by
 intro lo E a oo next Q e hs
 obtain ⟨h1,h2⟩:=h lo E a oo next Q e hs
 exact ⟨h1,fun r hd hn hp=>h2 r hd hn fun E' s' y d hk=>hk.elim⟩
def opsX (P:Program) (reg:List LOp):List LOp→St→(St→Prop)→(D→St→Prop)→Prop
 | [],s,K,_=>K s
 | o :: rest,s,K,KP=>
  match o.guard with
  | none=>OpX P o s (fun s'=>opsX P reg rest s' K KP) KP
  | some (j,want)=>
   match (reg[j]?).bind (·.dst) with
   | some t=>
    match gB (s.env.getD t .any) want with
    | some true=>OpX P o s (fun s'=>opsX P reg rest s' K KP) KP
    | some false=>opsX P reg rest (s.put o.dst (.v undef)) K KP
    | none=>False
   | none=>False
theorem opsX_ok {lo:Lo} {base:Nat} {r:Option Nat} {ops:Array Oper} {reg:List LOp} (hreg:ops.toList.map lop=reg) {Q:AX→St→Prop} {E0:Env} {om0:List Ob} (hb0:base≤E0.n) :
  ∀ (m i:Nat) (s:St) (E:Env) (a:Act),i+m=reg.length→Ext E0 om0 E s.om→Sat lo E s a→opsX P reg (reg.drop i) s (Q .norm) (fun d=>Q (.panic d)) →
   wpOpsIn (fence r) 0 P ops (Post lo base Q E0 om0) (za i m) a E.w:=by
 have hlen:ops.size=reg.length:=by rw [← hreg]; simp
 intro m
 induction m with
 | zero=>
  intro i s E a hi hx hs h
  rw [List.drop_eq_nil_of_le (by omega)] at h
  simp only [opsX] at h
  simp only [List.range'_zero,wpOpsIn]
  exact ⟨E,.norm,s,h,trivial,rfl,hx.toB hb0,hs⟩
 | succ m ih=>
  intro i s E a hi hx hs h
  have hlt:i<reg.length:=by omega
  have hlt':i<ops.size:=by omega
  rw [List.drop_eq_getElem_cons hlt] at h
  have ho:ops[i]? = some ops[i]:=Array.getElem?_eq_getElem hlt'
  have hl:reg[i]=lop ops[i]:=by
   have:reg[i]? = some (lop ops[i]):=by rw [← hreg]; simp [ho]
   rw [List.getElem?_eq_getElem hlt] at this
   simpa using this
  rw [List.range'_succ]
  simp only [wpOpsIn,ho]
  simp only [opsX,hl] at h
  have run:OpX P (lop ops[i]) s (fun s'=>opsX P reg (reg.drop (i+1)) s' (Q .norm) (fun d=>Q (.panic d))) (fun d=>Q (.panic d)) →
    ops[i].wpIn (fence r) 0 P a E.w (wpOpsIn (fence r) 0 P ops (Post lo base Q E0 om0) (za (i+1) m)) (Post lo base Q E0 om0):=by
   intro h
   obtain ⟨hnd,hdone⟩:=h lo E a ops[i] (wpOpsIn (fence r) 0 P ops (Post lo base Q E0 om0) (za (i+1) m)) (Post lo base Q E0 om0) rfl hs
   refine hdone r hnd ?_ ?_
   ·intro E' s' a' hk hx' hs'
    exact ih (i+1) s' E' a' (by omega) (hx.trans hx') hs' hk
   ·intro E' s' y d hk hx' hs' hd
    exact ⟨E',.panic d,s',hk,⟨y,rfl,hd⟩,rfl,(hx.trans hx').toB hb0,hs'⟩
  split at h
  ·rename_i hg
   have:Region.wanted ops[i] (yielded ops a.tmps)=true:=by unfold Region.wanted; rw [show ops[i].guard=none from hg]
   rw [if_pos this]
   exact run h
  ·rename_i j want hg
   split at h
   ·rename_i t ht
    split at h
    ·rename_i hb
     have hw:=wanted_ok hreg hs (show ops[i].guard=some (j,want) from hg) ht hb
     rw [if_pos hw]
     exact run h
    ·rename_i hb
     have hw:=wanted_ok hreg hs (show ops[i].guard=some (j,want) from hg) ht hb
     rw [if_neg (by rw [hw]; simp)]
     refine ⟨fun _ _=>trivial,?_⟩
     refine ih (i+1) _ E _ (by omega) ?_ (hs.put (Ext.refl E s.om) hs.rel (.v undef) _) h
     show Ext E0 om0 E (s.put ops[i].dst (.v undef)).om
     cases ops[i].dst <;> exact hx
    ·exact h.elim
   ·exact h.elim
theorem AW.regionX {base:Nat} {id:Nat} {ops:Array Oper} {Q:AX→St→Prop} {s:St} (reg:List LOp) (hreg:ops.toList.map lop=reg) (h:opsX P reg reg s (Q .norm) (fun d=>Q (.panic d))):AW base P (.region id ops false) Q s:=by
 intro r lo E a hr hb hs
 have hlen:ops.size=reg.length:=by rw [← hreg]; simp
 refine wpIn_region ?_
 rw [List.range_eq_range',hlen]
 exact opsX_ok hreg hb reg.length 0 s E a (by omega) (Ext.refl _ _) hs (by simpa using h)
end
end Go.Proofs.YtbmedfjmccnclaaGreat.AWP
