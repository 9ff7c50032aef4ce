/- Regions that draw their order, new variables among the operations. -/
import Derived.Test.YtbmedfjmccnclaaGreatLogicA
import Derived.Orders
set_option linter.unusedVariables false
set_option linter.unusedSimpArgs false
set_option linter.unusedSectionVars false
namespace Go.Proofs.YtbmedfjmccnclaaGreat.AWP
open Go
open _root_.List renaming map_congr_left → za
def gB (d:D) (want:Bool):Option Bool:=
 match d with
 | .v (.bool b)=>some (decide (b=want))
 | .v (.tuple _)=>some false
 | _=>none
def aops (P:Program) (T:Tab) (reg:List LOp) (own:List Nat):Nat→List LOp→St→(St→Prop)→(D→St→Prop)→Prop
 | _,[],s,K,_=>K s
 | i,o :: rest,s,K,KP=>
  match o.guard with
  | none=>aop P T (own.contains i) o.op o.dst s (fun s'=>aops P T reg own (i+1) rest s' K KP) KP
  | some (j,want)=>
   match (reg[j]?).bind (·.dst) with
   | some t=>
    match gB (s.env.getD t .any) want with
    | some true=>aop P T (own.contains i) o.op o.dst s (fun s'=>aops P T reg own (i+1) rest s' K KP) KP
    | some false=>aops P T reg own (i+1) rest (s.put o.dst (.v undef)) K KP
    | none=>False
   | none=>False
section
variable {P:Program} {T:Tab}
theorem wanted_ok {lo:Lo} {ops:Array Oper} {reg:List LOp} (hreg:ops.toList.map lop=reg) {E:Env} {s:St} {a:Act} (hs:Sat lo E s a) {o:Oper} {j:Nat} {want:Bool} (hg:o.guard=some (j,want)) {t:Tmp} (ht:(reg[j]?).bind (·.dst)=some t)
  {w:Bool} (hb:gB (s.env.getD t .any) want=some w):Region.wanted o (yielded ops a.tmps)=w:=by
 have hv:=hs.rd t
 have hlt:t<s.env.length:=by
  by_cases h:t<s.env.length
  ·exact h
  ·simp [List.getD_eq_getElem?_getD,h,gB] at hb
 have hlt':t<a.tmps.size:=by rw [hs.size]; exact hlt
 have hd:(ops[j]?).bind (·.dst)=some t:=by
  rw [← hreg] at ht
  simp only [List.getElem?_map] at ht
  cases ho:ops[j]? with
  | none=>simp [ho] at ht
  | some oj=>simpa [ho,lop] using ht
 unfold gB at hb
 split at hb
 ·rename_i b hb'
  rw [hb'] at hv
  have hv:=hv.v_inv
  have hy:a.tmps[t]? = some (.bool b):=by
   simp [Array.getD,hlt'] at hv
   simp [hlt',hv]
  unfold Region.wanted yielded
  rw [hg]
  simp only [hd,Option.bind_some,hy]
  cases hb
  cases b <;> cases want <;> rfl
 ·rename_i c hb'
  rw [hb'] at hv
  have hv:=hv.v_inv
  have hy:a.tmps[t]? = some (.tuple c):=by
   simp [Array.getD,hlt'] at hv
   simp [hlt',hv]
  unfold Region.wanted yielded
  rw [hg]
  simp only [hd,Option.bind_some,hy]
  cases hb
  cases want <;> rfl
 ·cases hb
theorem aops_ok {lo:Lo} {base:Nat} {r:Option Nat} (hT:TabOk P T) {ops:Array Oper} {reg:List LOp} (hreg:ops.toList.map lop=reg) (own:List Nat) {Q:AX→St→Prop} {E0:Env} {om0:List Ob} (hb0:base≤E0.n) :
  ∀ (m i:Nat) (s:St) (E:Env) (a:Act),i+m=reg.length→Ext E0 om0 E s.om→Sat lo E s a→aops P T reg own i (reg.drop i) s (Q .norm) (fun d=>Q (.panic d)) →
   wpOpsIn (fence r) 0 P ops (Post lo base Q E0 om0) (List.range' i m) a E.w:=by
 have hlen:ops.size=reg.length:=by rw [← hreg]; simp
 intro m
 induction m with
 | zero=>
  intro i s E a hi hx hs h
  rw [List.drop_eq_nil_of_le (by omega)] at h
  simp only [aops] at h
  simp only [List.range'_zero,wpOpsIn]
  exact ⟨E,.norm,s,h,trivial,rfl,hx.toB hb0,hs⟩
 | succ m ih=>
  intro i s E a hi hx hs h
  have hlt:i<reg.length:=by omega
  have hlt':i<ops.size:=by omega
  rw [List.drop_eq_getElem_cons hlt] at h
  have ho:ops[i]? = some ops[i]:=Array.getElem?_eq_getElem hlt'
  have hl:reg[i]=lop ops[i]:=by
   have:reg[i]? = some (lop ops[i]):=by rw [← hreg]; simp [ho]
   rw [List.getElem?_eq_getElem hlt] at this
   simpa using this
  rw [List.range'_succ]
  simp only [wpOpsIn,ho]
  simp only [aops,hl,lop] at h
  have run:aop P T (own.contains i) ops[i].op ops[i].dst s (fun s'=>aops P T reg own (i+1) (reg.drop (i+1)) s' (Q .norm) (fun d=>Q (.panic d))) (fun d=>Q (.panic d)) →
    ops[i].wpIn (fence r) 0 P a E.w (wpOpsIn (fence r) 0 P ops (Post lo base Q E0 om0) (List.range' (i+1) m)) (Post lo base Q E0 om0):=by
   intro h
   refine aop_ok hT (own.contains i) hs h r (aop_notDefer h) ?_ ?_
   ·intro E' s' a' hk hx' hs'
    exact ih (i+1) s' E' a' (by omega) (hx.trans hx') hs' hk
   ·intro E' s' y d hk hx' hs' hd
    exact ⟨E',.panic d,s',hk,⟨y,rfl,hd⟩,rfl,(hx.trans hx').toB hb0,hs'⟩
  split at h
  ·rename_i hg
   have:Region.wanted ops[i] (yielded ops a.tmps)=true:=by unfold Region.wanted; rw [hg]
   rw [if_pos this]
   exact run h
  ·rename_i j want hg
   split at h
   ·rename_i t ht
    split at h
    ·rename_i hb
     have hw:=wanted_ok hreg hs hg ht hb
     rw [if_pos hw]
     exact run h
    ·rename_i hb
     have hw:=wanted_ok hreg hs hg ht hb
     rw [if_neg (by rw [hw]; simp)]
     refine ⟨fun _ _=>trivial,?_⟩
     refine ih (i+1) _ E _ (by omega) ?_ (hs.put (Ext.refl E s.om) hs.rel (.v undef) _) h
     cases ops[i].dst <;> exact hx
    ·exact h.elim
   ·exact h.elim
theorem AW.region {base:Nat} (hT:TabOk P T) {id:Nat} {ops:Array Oper} {Q:AX→St→Prop} {s:St} (reg:List LOp) (own:List Nat) (hreg:ops.toList.map lop=reg)
  (h:aops P T reg own 0 reg s (Q .norm) (fun d=>Q (.panic d))):AW base P (.region id ops false) Q s:=by
 intro r lo E a hr hb hs
 have hlen:ops.size=reg.length:=by rw [← hreg]; simp
 refine wpIn_region ?_
 rw [List.range_eq_range',hlen]
 exact aops_ok hT hreg own hb reg.length 0 s E a (by omega) (Ext.refl _ _) hs (by simpa using h)
def QCall (P:Program) (f:FuncId) (ds:List D) (om:List Ob) (K:D→Prop):Prop:=∃ d,AC P f ds om (retP d om)∧K d
def aopQ (P:Program) (T:Tab) (o:Op) (ρ:Operand→D) (om:List Ob) (K:D→Prop):Prop:=
 match o with
 | .move x=>K (ρ x)
 | .assign x=>K (ρ x)
 | .pick c a b=>
  match ρ c with
  | .v (.bool t)=>K (if t then ρ a else ρ b)
  | _=>False
 | .load t x=>opt (qLoad T om t (ρ x)) K
 | .fieldAddr t x f=>opt (qFieldAddr T t (ρ x) f) K
 | .indexAddr t x i=>opt (qIndexAddr T om t (ρ x) (ρ i)) K
 | .field t x f=>opt (qField T t (ρ x) f) K
 | .index t x i=>opt (qIndex T t (ρ x) (ρ i)) K
 | .slice t x lo hi none=>opt (qSlice T om t (ρ x) (lo.map ρ) (hi.map ρ)) K
 | .binOp op t x y _=>opt (qBin T op t (ρ x) (ρ y)) K
 | .unOp op _ x=>opt (qUn op (ρ x)) K
 | .convert a b x=>opt (qConvO T om a b (ρ x)) K
 | .extract x i=>
  match ρ x with
  | .tup c=>opt (c[i]?) K
  | _=>False
 | .nilCheck x=>
  match ρ x with
  | .pel r=>K (.pel r)
  | .ref k o=>K (.ref k o)
  | .rel k z i j=>K (.rel k z i j)
  | _=>False
 | .makeFunc (.func f) first cap=>if first.size=0 then K (.fn f (cap.toList.map ρ)) else False
 | .lookup t x i ok=>opt (qLookup T om t (ρ x) (ρ i) ok) K
 | .makeInterface t x=>P.concrete t=true∧K (.ifc t (ρ x))
 | .build t parts=>opt (qBuild T t (parts.toList.map fun p=>(p.1,ρ p.2))) K
 | .buildSlice t len parts=>opt (qRows T t len (parts.toList.map fun p=>(p.1,ρ p.2))) fun r=>K (.sl r.2.1 r.2.2)
 | .makeSlice t l c=>
  match T t,ρ l,ρ c with
  | some ⟨.slice e,_,_,_⟩,.v (.int _ n),.v (.int _ m)=>
   match T e with
   | some ei=>0<ei.size∧0≤n∧n≤m∧ei.bytes * m≤281474976710656∧m≤281474976710656∧K (.sl ei.size (List.replicate n.toNat (zeroD ei)))
   | none=>False
  | _,_,_=>False
 | .call c=>
  match c.callee with
  | .value f=>
   match ρ f with
   | .fn g cap=>QCall P g (c.args.toList.map ρ++cap) om K
   | _=>False
  | .builtin .len=>
   match c.args.toList,c.argTypes.toList with
   | [x],[t]=>opt (qLen T om t (ρ x)) K
   | _,_=>False
  | _=>False
 | _=>False
theorem opt_det {α:Type} {x:Option α} {K:α→Prop} (h:opt x K):∃ d,opt x (· = d)∧K d:=by
 obtain ⟨a,rfl,h⟩:=opt_elim h
 exact ⟨a,rfl,h⟩
theorem aopQ_det {o:Op} {ρ:Operand→D} {om:List Ob} {K:D→Prop} (h:aopQ P T o ρ om K):∃ d,aopQ P T o ρ om (· = d)∧K d:=by
 cases o <;> simp only [aopQ] at h ⊢
 all_goals try exact h.elim
 all_goals try exact opt_det h
 case move=>exact ⟨_,rfl,h⟩
 case assign=>exact ⟨_,rfl,h⟩
 case pick=>
  split at h
  ·exact ⟨_,rfl,h⟩
  ·exact h.elim
 case slice t x lo hi mx=>
  cases mx with
  | some m=>exact h.elim
  | none=>exact opt_det h
 case extract=>
  split at h
  ·exact opt_det h
  ·exact h.elim
 case nilCheck=>
  split at h
  ·exact ⟨_,rfl,h⟩
  ·exact ⟨_,rfl,h⟩
  ·exact ⟨_,rfl,h⟩
  ·exact h.elim
 case makeFunc fn first cap=>
  cases fn <;> simp only at h ⊢ <;> try exact h.elim
  split at h
  ·rename_i h0; simp only [h0,if_true]; exact ⟨_,rfl,h⟩
  ·exact h.elim
 case makeInterface=>exact ⟨_,⟨h.1,rfl⟩,h.2⟩
 case buildSlice=>
  obtain ⟨r,hr,hk⟩:=opt_elim h
  rw [hr]
  exact ⟨_,rfl,hk⟩
 case makeSlice t l c=>
  split at h
  ·rename_i e _ _ _ k n k' m ht hl hc
   split at h
   ·rename_i ei he
    obtain ⟨h0,h1,h2,h3,h4,hk⟩:=h
    exact ⟨_,⟨h0,h1,h2,h3,h4,rfl⟩,hk⟩
   ·exact h.elim
  ·exact h.elim
 case call c=>
  split at h
  ·rename_i f hc
   split at h
   ·rename_i g cap hf
    obtain ⟨d,h1,h2⟩:=h
    exact ⟨d,⟨d,h1,rfl⟩,h2⟩
   ·exact h.elim
  ·split at h
   ·exact opt_det h
   ·exact h.elim
  ·exact h.elim
theorem aopQ_aop {o:Op} {dst:Option Tmp} {s:St} {KP:D→St→Prop} {d:D} (h:aopQ P T o (evD s.env) s.om (· = d)):aop P T false o dst s (fun s'=>s'=s.put dst d) KP:=by
 have ho:∀ {x:Option D},opt x (· = d)→opt x fun d'=>s.put dst d'=s.put dst d:=by
  intro x hx
  obtain ⟨a,rfl,e⟩:=opt_elim hx
  simp only [opt_some]
  rw [e]
 cases o <;> simp only [aopQ] at h <;> simp only [aop]
 all_goals try exact h.elim
 all_goals try exact ho h
 case move=>rw [h]
 case assign=>rw [h]
 case pick=>
  split at h
  ·rename_i hc; simp only [hc]; rw [h]
  ·exact h.elim
 case slice t x lo hi mx=>
  cases mx with
  | some m=>exact h.elim
  | none=>exact ho h
 case extract=>
  split at h
  ·rename_i hc; simp only [hc]; exact ho h
  ·exact h.elim
 case nilCheck=>
  split at h
  ·rename_i hc; simp only [hc]; rw [h]
  ·rename_i hc; simp only [hc]; rw [h]
  ·rename_i hc; simp only [hc]; rw [h]
  ·exact h.elim
 case makeFunc fn first cap=>
  cases fn <;> simp only at h ⊢ <;> try exact h.elim
  split at h
  ·rename_i h0; rw [if_pos h0,h]
  ·exact h.elim
 case makeInterface=>exact ⟨h.1,by rw [h.2]⟩
 case buildSlice=>
  obtain ⟨r,hr,hk⟩:=opt_elim h
  rw [hr]
  simp only [opt_some,Bool.false_eq_true,if_false]
  rw [hk]
 case makeSlice t l c=>
  split at h
  ·rename_i e _ _ _ k n k' m ht hl hc
   split at h
   ·rename_i ei he
    obtain ⟨h0,h1,h2,h3,h4,hk⟩:=h
    simp only [ht,hl,hc,he,Bool.false_eq_true,if_false]
    exact ⟨h0,h1,h2,h3,h4,by rw [hk]⟩
   ·exact h.elim
  ·exact h.elim
 case call c=>
  unfold aCall
  split at h
  ·rename_i f hc
   simp only [hc]
   split at h
   ·rename_i g cap hf
    obtain ⟨d',h1,rfl⟩:=h
    simp only [hf]
    refine ⟨_,h1,?_⟩
    rintro o om' ⟨rfl,rfl⟩
    rfl
   ·exact h.elim
  ·rename_i hc
   simp only [hc]
   split at h
   ·rename_i hx ht; simp only [hx,ht]; exact ho h
   ·exact h.elim
  ·exact h.elim
theorem map_congr_ops {ρ ρ':Operand→D} {l:List Operand} (h:∀ x∈l,ρ x=ρ' x):l.map ρ=l.map ρ':=za h
theorem aopQ_congr {o:Op} {ρ ρ':Operand→D} {om:List Ob} {K:D→Prop} (hc:∀ x∈o.operands.toList,ρ x=ρ' x) (h:aopQ P T o ρ om K):aopQ P T o ρ' om K:=by
 cases o <;> simp only [aopQ] at h ⊢
 all_goals try exact h.elim
 case move x=>rw [← hc x (by simp [Op.operands])]; exact h
 case assign x=>rw [← hc x (by simp [Op.operands])]; exact h
 case pick c a b=>
  rw [← hc c (by simp [Op.operands]),← hc a (by simp [Op.operands]),← hc b (by simp [Op.operands])]; exact h
 case load t x=>rw [← hc x (by simp [Op.operands])]; exact h
 case fieldAddr t x f=>rw [← hc x (by simp [Op.operands])]; exact h
 case indexAddr t x i=>rw [← hc x (by simp [Op.operands]),← hc i (by simp [Op.operands])]; exact h
 case field t x f=>rw [← hc x (by simp [Op.operands])]; exact h
 case index t x i=>rw [← hc x (by simp [Op.operands]),← hc i (by simp [Op.operands])]; exact h
 case slice t x lo hi mx=>
  cases mx with
  | some m=>exact h.elim
  | none=>
   have h1:lo.map ρ=lo.map ρ':=by
    cases lo with
    | none=>rfl
    | some y=>simp only [Option.map_some]; rw [hc y (by simp [Op.operands])]
   have h2:hi.map ρ=hi.map ρ':=by
    cases hi with
    | none=>rfl
    | some y=>simp only [Option.map_some]; rw [hc y (by simp [Op.operands])]
   change opt (qSlice T om t (ρ' x) (lo.map ρ') (hi.map ρ')) K
   rw [← hc x (by simp [Op.operands]),← h1,← h2]
   exact h
 case lookup t x i ok=>rw [← hc x (by simp [Op.operands]),← hc i (by simp [Op.operands])]; exact h
 case binOp op t x y yt=>rw [← hc x (by simp [Op.operands]),← hc y (by simp [Op.operands])]; exact h
 case unOp op t x=>rw [← hc x (by simp [Op.operands])]; exact h
 case convert t u x=>rw [← hc x (by simp [Op.operands])]; exact h
 case extract x i=>rw [← hc x (by simp [Op.operands])]; exact h
 case nilCheck x=>rw [← hc x (by simp [Op.operands])]; exact h
 case makeFunc fn first cap=>
  cases fn <;> simp only at h ⊢ <;> try exact h.elim
  have:cap.toList.map ρ=cap.toList.map ρ':=map_congr_ops fun x hx=>hc x (by simp [Op.operands]; exact .inr (by simpa using hx))
  rw [← this]
  exact h
 case makeInterface t x=>rw [← hc x (by simp [Op.operands])]; exact h
 case build t parts=>
  have:parts.toList.map (fun p=>(p.1,ρ p.2))=parts.toList.map fun p=>(p.1,ρ' p.2):=za fun p hp=>by
   rw [hc p.2 (by simp [Op.operands]; exact ⟨p.1,by simpa using hp⟩)]
  rw [← this]
  exact h
 case makeSlice t l c=>rw [← hc l (by simp [Op.operands]),← hc c (by simp [Op.operands])]; exact h
 case buildSlice t len parts=>
  have:parts.toList.map (fun p=>(p.1,ρ p.2))=parts.toList.map fun p=>(p.1,ρ' p.2):=za fun p hp=>by
   rw [hc p.2 (by simp [Op.operands]; exact ⟨p.1,by simpa using hp⟩)]
  rw [← this]
  exact h
 case call c=>
  have hargs:∀ x∈c.args.toList,ρ x=ρ' x:=fun x hx=>hc x (by simp [Op.operands,Call.operands]; exact .inr (by simpa using hx))
  have hargs':c.args.toList.map ρ=c.args.toList.map ρ':=map_congr_ops hargs
  split at h
  ·rename_i f hcc
   have hf:ρ f=ρ' f:=hc f (by simp [Op.operands,Call.operands,hcc])
   rw [hf,hargs'] at h
   exact h
  ·rename_i hcc
   split at h
   ·rename_i x t hx ht
    rw [← hargs x (by rw [hx]; simp)]
    exact h
   ·exact h.elim
  ·exact h.elim
end
end Go.Proofs.YtbmedfjmccnclaaGreat.AWP
namespace Go.Proofs.YtbmedfjmccnclaaGreat.AWP
open Go
open _root_.Bool renaming and_eq_true → za, or_eq_true → zd
open _root_.Array renaming any_eq_true' → zb
open _root_.List renaming range → zc
def putE (env:List D) (dst:Option Tmp) (d:D):List D:=
 match dst with
 | some t=>env.set t d
 | none=>env
theorem putE_length (env:List D) (dst:Option Tmp) (d:D):(putE env dst d).length=env.length:=by cases dst <;> simp [putE]
theorem put_eq (env:List D) (om:List Ob) (dst:Option Tmp) (d:D):St.put ⟨env,om⟩ dst d=⟨putE env dst d,om⟩:=by cases dst <;> rfl
def qops (P:Program) (T:Tab) (reg:List LOp) (om:List Ob):List LOp→List D→(List D→Prop)→Prop
 | [],env,K=>K env
 | o :: rest,env,K=>
  match o.guard with
  | none=>aopQ P T o.op (evD env) om fun d=>qops P T reg om rest (putE env o.dst d) K
  | some (j,want)=>
   match (reg[j]?).bind (·.dst) with
   | some t=>
    match gB (env.getD t .any) want with
    | some true=>aopQ P T o.op (evD env) om fun d=>qops P T reg om rest (putE env o.dst d) K
    | some false=>qops P T reg om rest (putE env o.dst (.v undef)) K
    | none=>False
   | none=>False
def StepOk (P:Program) (T:Tab) (reg:List LOp) (om:List Ob) (o:LOp) (env:List D) (d:D):Prop:=
 match o.guard with
 | none=>aopQ P T o.op (evD env) om (· = d)
 | some (j,want)=>∃ t b,(reg[j]?).bind (·.dst)=some t∧gB (env.getD t .any) want=some b∧((b=true∧aopQ P T o.op (evD env) om (· = d))∨(b=false∧d=.v undef))
def denv (L:Nat→Bool):Nat→List LOp→List D→List D→List D
 | i,o :: os,d :: ds,e=>denv L (i+1) os ds (if L i then putE e o.dst d else e)
 | _,_,_,e=>e
theorem denv_length (L:Nat→Bool):∀ (i:Nat) (os:List LOp) (ds:List D) (e:List D),(denv L i os ds e).length=e.length
 | i,o :: os,d :: ds,e=>by
  simp only [denv]
  rw [denv_length L (i+1) os ds]
  split
  ·exact putE_length _ _ _
  ·rfl
 | _,[],_,e=>by simp [denv]
 | _,_ :: _,[],e=>by simp [denv]
theorem putE_getD_ne {env:List D} {dst:Option Tmp} {d:D} {u:Nat} (h:dst≠some u):(putE env dst d).getD u .any=env.getD u .any:=by
 cases dst with
 | none=>rfl
 | some t=>
  have:t≠u:=fun e=>h (by rw [e])
  simp [putE,List.getD_eq_getElem?_getD,List.getElem?_set,this]
theorem putE_getD_eq {env:List D} {d:D} {u:Nat} (h:u<env.length):(putE env (some u) d).getD u .any=d:=by
 simp [putE,List.getD_eq_getElem?_getD,List.getElem?_set,h]
theorem denv_old {L:Nat→Bool}:∀ {i:Nat} {os:List LOp} {ds:List D} {e:List D} {u:Nat},(∀ j o,os[j]? = some o→o.dst=some u→L (i+j)=false)→(denv L i os ds e).getD u .any=e.getD u .any
 | i,o :: os,d :: ds,e,u,h=>by
  simp only [denv]
  rw [denv_old (fun j o' hj hd=>by have:=h (j+1) o' (by simpa using hj) hd; rwa [show i+(j+1)=i+1+j by omega] at this)]
  split
  ·rename_i hL
   refine putE_getD_ne fun hd=>?_
   have:=h 0 o (by simp) hd
   simp [hL] at this
  ·rfl
 | _,[],_,e,u,_=>by simp [denv]
 | _,_ :: _,[],e,u,_=>by simp [denv]
theorem denv_new {L:Nat→Bool}:∀ {i:Nat} {os:List LOp} {ds:List D} {e:List D} {u j:Nat} {o:LOp} {d:D},os[j]? = some o→ds[j]? = some d→o.dst=some u→L (i+j)=true→u<e.length →
  (∀ j' o',os[j']? = some o'→o'.dst=some u→j'=j)→(denv L i os ds e).getD u .any=d
 | i,o0 :: os,d0 :: ds,e,u,j,o,d,h1,h2,h3,h4,h5,h6=>by
  simp only [denv]
  cases j with
  | zero=>
   simp only [List.getElem?_cons_zero,Option.some.injEq] at h1 h2
   subst h1 h2
   rw [denv_old (fun j o' hj hd=>by have:=h6 (j+1) o' (by simpa using hj) hd; omega)]
   rw [if_pos (by simpa using h4),h3]
   exact putE_getD_eq h5
  | succ j=>
   simp only [List.getElem?_cons_succ] at h1 h2
   refine denv_new h1 h2 h3 (by rwa [show i+(j+1)=i+1+j by omega] at h4) ?_ (fun j' o' hj hd=>by have:=h6 (j'+1) o' (by simpa using hj) hd; omega)
   split
   ·rw [putE_length]; exact h5
   ·exact h5
 | _,[],_,e,u,j,o,d,h1,_,_,_,_,_=>by simp at h1
 | _,_ :: _,[],e,u,j,o,d,_,h2,_,_,_,_=>by simp at h2
theorem denv_congr {L L':Nat→Bool}:∀ {i:Nat} {os:List LOp} {ds:List D} {e:List D},(∀ j,j<os.length→L (i+j)=L' (i+j))→denv L i os ds e=denv L' i os ds e
 | i,o :: os,d :: ds,e,h=>by
  simp only [denv]
  have h0:L i=L' i:=by have:=h 0 (by simp); simpa using this
  rw [h0]
  exact denv_congr fun j hj=>by have:=h (j+1) (by simpa using hj); rwa [show i+(j+1)=i+1+j by omega] at this
 | _,[],_,e,_=>by simp [denv]
 | _,_ :: _,[],e,_=>by simp [denv]
section
variable {P:Program} {T:Tab}
theorem qops_facts {reg:List LOp} {om:List Ob}:∀ {os:List LOp} {env:List D} {K:List D→Prop},qops P T reg om os env K →
  ∃ ds:List D,ds.length=os.length∧K (denv (fun _=>true) 0 os ds env)∧∀ i o d,os[i]? = some o→ds[i]? = some d→StepOk P T reg om o (denv (fun j=>decide (j<i)) 0 os ds env) d:=by
 intro os
 induction os with
 | nil=>intro env K h; exact ⟨[],rfl,by simpa [denv,qops] using h,by simp⟩
 | cons o os ih=>
  intro env K h
  have shift:∀ (L:Nat→Bool) (i:Nat) (os:List LOp) (ds e:List D),denv L (i+1) os ds e=denv (fun j=>L (j+1)) i os ds e:=by
   intro L i os
   induction os generalizing i with
   | nil=>intro ds e; simp [denv]
   | cons o os ih=>
    intro ds e
    cases ds with
    | nil=>simp [denv]
    | cons d ds=>simp only [denv]; exact ih (i+1) ds _
  have fin:∀ d,StepOk P T reg om o env d→qops P T reg om os (putE env o.dst d) K→∃ ds:List D,ds.length=(o :: os).length∧K (denv (fun _=>true) 0 (o :: os) ds env)∧∀ i o1 d1,(o :: os)[i]? = some o1→ds[i]? = some d1→StepOk P T reg om o1 (denv (fun j=>decide (j<i)) 0 (o :: os) ds env) d1:=by
   intro d hd hq
   obtain ⟨ds,h1,h2,h3⟩:=ih hq
   refine ⟨d :: ds,by simp [h1],?_,fun i o1 d1 ho hd1=>?_⟩
   ·simp only [denv,if_true]
    rw [shift]
    exact h2
   ·cases i with
    | zero=>
     simp only [List.getElem?_cons_zero,Option.some.injEq] at ho hd1
     subst ho hd1
     have:denv (fun j=>decide (j<0)) 0 (o :: os) (d :: ds) env=env:=by
      have:∀ (i:Nat) (os:List LOp) (ds e:List D),denv (fun j=>decide (j<0)) i os ds e=e:=by
       intro i os
       induction os generalizing i with
       | nil=>intro ds e; simp [denv]
       | cons o os ih=>
        intro ds e
        cases ds with
        | nil=>simp [denv]
        | cons d ds=>simp only [denv]; rw [ih]; simp
      exact this _ _ _ _
     rw [this]
     exact hd
    | succ i=>
     simp only [List.getElem?_cons_succ] at ho hd1
     have:=h3 i o1 d1 ho hd1
     simp only [denv]
     rw [shift]
     simpa using this
  simp only [qops] at h
  split at h
  ·rename_i hg
   obtain ⟨d,h1,h2⟩:=aopQ_det h
   exact fin d (by simp only [StepOk,hg]; exact h1) h2
  ·rename_i j want hg
   split at h
   ·rename_i t ht
    split at h
    ·rename_i hb
     obtain ⟨d,h1,h2⟩:=aopQ_det h
     exact fin d (by simp only [StepOk,hg]; exact ⟨t,true,ht,hb,.inl ⟨rfl,h1⟩⟩) h2
    ·rename_i hb
     exact fin (.v undef) (by unfold StepOk; rw [hg]; exact ⟨t,false,ht,hb,.inr ⟨rfl,rfl⟩⟩) h
    ·exact h.elim
   ·exact h.elim
def hasEdge (o:Oper) (j:Nat):Bool:=o.after.any fun e=>e.on == j && Region.binds .any e
def opTmps (o:Oper):List Tmp:=o.op.operands.toList.filterMap fun | .tmp t=>some t | _=>none
def looked (ops:Array Oper) (o:Oper):List Tmp:=
 opTmps o++(match o.guard with | some (g,_)=>((ops[g]?).bind (·.dst)).toList | none=>[])
def reachE (ops:Array Oper):Nat→Nat→Nat→Bool
 | 0,i,j=>
  match ops[i]? with
  | some o=>hasEdge o j
  | none=>false
 | f+1,i,j=>
  match ops[i]? with
  | some o=>hasEdge o j || o.after.any fun e=>Region.binds .any e && reachE ops f e.on j
  | none=>false
def drawOk (ops:Array Oper) (pre:List Nat) (m:Nat) (lin:Bool):Bool:=
 decide (m≤ops.size) && pre.all (fun i=>decide (i<m)) &&
 ((zc ops.size).all fun i=>
  match ops[i]? with
  | none=>false
  | some o=>
   (o.after.all fun e=>!Region.binds .any e || decide (e.on<i)) &&
   (if i<m then
    (zc m).all fun j=>
     match ops[j]? with
     | none=>false
     | some oj=>(j == i || oj.dst == none || oj.dst != o.dst) && ((looked ops o).all fun u=>oj.dst != some u || (decide (j<i) && hasEdge o j))
   else ((zc (if lin then i else m)).all fun j=>pre.contains j || reachE ops 9 i j) && (lin || o.guard.isNone)))
structure DrawOk (ops:Array Oper) (pre:List Nat) (m:Nat) (lin:Bool):Prop where
 le:m≤ops.size
 prem:∀ i∈pre,i<m
 back:∀ (i:Nat) (o:Oper) (e:Edge),ops[i]? = some o→e∈o.after→Region.binds .any e=true→e.on<i
 dst:∀ (i j:Nat) (oi oj:Oper),i<m→j<m→ops[i]? = some oi→ops[j]? = some oj→j≠i→oj.dst=none∨oj.dst≠oi.dst
 look:∀ (i j:Nat) (oi oj:Oper) (u:Tmp),i<m→j<m→ops[i]? = some oi→ops[j]? = some oj→u∈looked ops oi→oj.dst=some u→j<i∧hasEdge oi j=true
 tail:∀ (i j:Nat) (oi:Oper),m≤i→j<(if lin then i else m)→ops[i]? = some oi→j∈pre∨reachE ops 9 i j=true
 grd:∀ (i:Nat) (oi:Oper),m≤i→lin=false→ops[i]? = some oi→oi.guard=none
theorem drawOk_spec {ops:Array Oper} {pre:List Nat} {m:Nat} {lin:Bool} (h:drawOk ops pre m lin=true):DrawOk ops pre m lin:=by
 unfold drawOk at h
 simp only [za,decide_eq_true_eq] at h
 obtain ⟨⟨h0,hpre⟩,h⟩:=h
 have hi:∀ (i:Nat) (o:Oper),ops[i]? = some o→(o.after.all fun e=>!Region.binds .any e || decide (e.on<i))=true ∧
   (if i<m then
    (zc m).all fun j=>
     match ops[j]? with
     | none=>false
     | some oj=>(j == i || oj.dst == none || oj.dst != o.dst) && ((looked ops o).all fun u=>oj.dst != some u || (decide (j<i) && hasEdge o j))
   else ((zc (if lin then i else m)).all fun j=>pre.contains j || reachE ops 9 i j) && (lin || o.guard.isNone))=true:=by
  intro i o ho
  have hlt:=(Array.getElem?_eq_some_iff.1 ho).1
  have:=List.all_eq_true.1 h i (List.mem_range.2 hlt)
  simp only [ho,za] at this
  exact this
 refine ⟨h0,fun i hi=>by simpa using List.all_eq_true.1 hpre i hi,fun i o e ho he hb=>?_,fun i j oi oj hi' hj' h1 h2 hne=>?_,fun i j oi oj u hi' hj' h1 h2 hu hd=>?_,fun i j oi hm hj ho=>?_,fun i oi hm hl ho=>?_⟩
 ·have:=(hi i o ho).1
  rw [Array.all_eq_true'] at this
  have:=this e he
  simp [hb] at this
  exact this
 ·have:=(hi i oi h1).2
  rw [if_pos hi'] at this
  have:=List.all_eq_true.1 this j (List.mem_range.2 hj')
  simp only [h2,za,zd,beq_iff_eq,bne_iff_ne] at this
  rcases this.1 with (h | h) | h
  ·exact absurd h hne
  ·exact .inl h
  ·exact .inr h
 ·have:=(hi i oi h1).2
  rw [if_pos hi'] at this
  have:=List.all_eq_true.1 this j (List.mem_range.2 hj')
  simp only [h2,za] at this
  have:=List.all_eq_true.1 this.2 u hu
  simp [hd] at this
  exact this
 ·have:=(hi i oi ho).2
  rw [if_neg (by omega)] at this
  rw [za] at this
  have:=List.all_eq_true.1 this.1 j (List.mem_range.2 hj)
  simpa using this
 ·have:=(hi i oi ho).2
  rw [if_neg (by omega),za,hl] at this
  simpa using this.2
theorem hasEdge_listed {ops:Array Oper} {listed:Array Bool} {i j:Nat} {o:Oper} (ho:ops[i]? = some o) (hr:i∈Region.ready .any ops listed) (he:hasEdge o j=true):listed.getD j false=true:=by
 obtain ⟨_,o',ho',hall⟩:=mem_ready.1 hr
 rw [ho] at ho'
 injection ho' with ho'
 subst ho'
 unfold hasEdge at he
 rw [zb] at he
 obtain ⟨e,h1,h2⟩:=he
 simp only [za,beq_iff_eq] at h2
 have:=hall e h1 h2.2
 rwa [h2.1] at this
def Closed (ops:Array Oper) (listed:Array Bool):Prop:=∀ (i:Nat) (o:Oper) (e:Edge),ops[i]? = some o→listed.getD i false=true→e∈o.after→Region.binds .any e=true→listed.getD e.on false=true
theorem closed_set {ops:Array Oper} {listed:Array Bool} {i:Nat} (hc:Closed ops listed) (hr:i∈Region.ready .any ops listed):Closed ops (listed.setIfInBounds i true):=by
 have mono:∀ j,listed.getD j false=true→(listed.setIfInBounds i true).getD j false=true:=by
  intro j h
  simp only [Array.getD_eq_getD_getElem?,Array.getElem?_setIfInBounds] at h ⊢
  split
  ·rename_i e
   subst e
   split
   ·rfl
   ·rename_i hn
    rw [Array.getElem?_eq_none (by omega)] at h
    simp at h
  ·exact h
 intro j o e ho hl he hb
 by_cases hji:j=i
 ·subst hji
  obtain ⟨_,o',ho',hall⟩:=mem_ready.1 hr
  rw [ho] at ho'
  injection ho' with ho'
  subst ho'
  exact mono _ (hall e he hb)
 ·refine mono _ (hc j o e ho ?_ he hb)
  have:i≠j:=fun h=>hji h.symm
  simpa [Array.getD_eq_getD_getElem?,Array.getElem?_setIfInBounds,this] using hl
theorem closed_reach {ops:Array Oper} {listed:Array Bool} (hc:Closed ops listed):∀ {f i j:Nat},listed.getD i false=true→reachE ops f i j=true→listed.getD j false=true:=by
 intro f
 have edge:∀ {i j:Nat} {o:Oper},ops[i]? = some o→listed.getD i false=true→hasEdge o j=true→listed.getD j false=true:=by
  intro i j o ho hl he
  unfold hasEdge at he
  rw [zb] at he
  obtain ⟨e,h1,h2⟩:=he
  simp only [za,beq_iff_eq] at h2
  have:=hc i o e ho hl h1 h2.2
  rwa [h2.1] at this
 induction f with
 | zero=>
  intro i j hl h
  simp only [reachE] at h
  split at h
  ·rename_i o ho; exact edge ho hl h
  ·cases h
 | succ f ih=>
  intro i j hl h
  simp only [reachE] at h
  split at h
  ·rename_i o ho
   rw [zd] at h
   rcases h with h | h
   ·exact edge ho hl h
   ·rw [zb] at h
    obtain ⟨e,h1,h2⟩:=h
    simp only [za] at h2
    exact ih (hc i o e ho hl h1 h2.1) h2.2
  ·cases h
theorem ready_reach {ops:Array Oper} {listed:Array Bool} {f i j:Nat} (hc:Closed ops listed) (hr:i∈Region.ready .any ops listed) (h:reachE ops f i j=true):listed.getD j false=true:=by
 obtain ⟨_,o,ho,hall⟩:=mem_ready.1 hr
 cases f with
 | zero=>
  simp only [reachE,ho] at h
  exact hasEdge_listed ho hr h
 | succ f=>
  simp only [reachE,ho,zd] at h
  rcases h with h | h
  ·exact hasEdge_listed ho hr h
  ·rw [zb] at h
   obtain ⟨e,h1,h2⟩:=h
   simp only [za] at h2
   exact closed_reach hc (hall e h1 h2.1) h2.2
end
end Go.Proofs.YtbmedfjmccnclaaGreat.AWP
namespace Go.Proofs.YtbmedfjmccnclaaGreat.AWP
open Go
open _root_.Array renaming replicate → za, getD → zd, getD_eq_getD_getElem? → zh
open _root_.List renaming getD_eq_getElem?_getD → zb, getElem?_eq_getElem → zc, countP_le_length → zf, getElem?_eq_none → zk, getElem?_map → zm, replicate → zn
open _root_.Nat renaming zero_add → ze, le_refl → zg, lt_or_ge → zl
open _root_.Option renaming map_eq_some_iff → zi
open _root_.Bool renaming and_eq_true → zj
section
variable {P:Program} {T:Tab}
theorem ready_nil {ops:Array Oper} (hback:∀ (i:Nat) (o:Oper) (e:Edge),ops[i]? = some o→e∈o.after→Region.binds .any e=true→e.on<i) {listed:Array Bool} (hs:listed.size=ops.size)
  (h:Region.ready .any ops listed=[]):∀ i,i<ops.size→listed.getD i true=true:=by
 intro i
 induction i using Nat.strongRecOn with
 | _ i ih=>
  intro hi
  cases hb:listed.getD i true with
  | true=>rfl
  | false=>
   exfalso
   have:i∈Region.ready .any ops listed:=by
    rw [mem_ready]
    refine ⟨hb,ops[i],Array.getElem?_eq_getElem hi,fun e he hbd=>?_⟩
    have hlt:=hback i _ e (Array.getElem?_eq_getElem hi) he hbd
    have:=ih e.on hlt (by omega)
    have hl:e.on<listed.size:=by omega
    simp [zd,hl] at this ⊢
    exact this
   rw [h] at this
   simp at this
def unl (listed:Array Bool):Nat:=listed.toList.countP fun b=>!b
theorem unl_set {listed:Array Bool} {i:Nat} (h:listed.getD i true=false):unl (listed.setIfInBounds i true)+1=unl listed:=by
 have hl:i<listed.size:=by
  by_cases hl:i<listed.size
  ·exact hl
  ·simp [zd,hl] at h
 have hv:listed.toList[i]'(by simpa using hl)=false:=by simpa [zd,hl] using h
 unfold unl
 rw [Array.toList_setIfInBounds,List.countP_set (by simpa using hl)]
 have hpos:0<listed.toList.countP fun b=>!b:=by
  rw [List.countP_pos_iff]
  exact ⟨_,List.getElem_mem (by simpa using hl),by simp [hv]⟩
 simp only [hv,Bool.not_false,if_true,Bool.not_true,Bool.false_eq_true,if_false]
 omega
theorem getD_true_of {listed:Array Bool} {j:Nat} (h:j<listed.size):listed.getD j true=listed.getD j false:=by simp [zd,h]
theorem set_getD {listed:Array Bool} {i j:Nat} (hi:i<listed.size):(listed.setIfInBounds i true).getD j true=if j=i then true else listed.getD j true:=by
 by_cases e:j=i
 ·subst e; simp [zh,Array.getElem?_setIfInBounds,hi]
 ·rw [if_neg e]
  have:i≠j:=fun h=>e h.symm
  simp [zh,Array.getElem?_setIfInBounds,this]
theorem any_tail {lo:Lo} {base:Nat} {r:Option Nat} (hT:TabOk P T) {ops:Array Oper} {reg:List LOp} (hreg:ops.toList.map lop=reg) {pre:List Nat} {m:Nat} (hok:DrawOk ops pre m true) (own:List Nat) {Q:AX→St→Prop} {E0:Env} {om0:List Ob} (hb0:base≤E0.n) :
  ∀ (fuel:Nat) (listed:Array Bool) (i:Nat) (s:St) (E:Env) (a:Act),listed.size=ops.size→Closed ops listed→m≤i→i≤ops.size→(∀ j,j<ops.size→(listed.getD j true=true↔j<i))→unl listed≤fuel →
   Ext E0 om0 E s.om→Sat lo E s a→aops P T reg own i (reg.drop i) s (Q .norm) (fun d=>Q (.panic d))→wpAnyIn (fence r) 0 P .any ops (Post lo base Q E0 om0) fuel listed a E.w:=by
 have hlen:ops.size=reg.length:=by rw [← hreg]; simp
 have stop:∀ (listed:Array Bool) (i:Nat) (s:St) (E:Env) (a:Act),listed.size=ops.size→i≤ops.size→(∀ j,j<ops.size→(listed.getD j true=true↔j<i))→Region.ready .any ops listed=[] →
   Ext E0 om0 E s.om→Sat lo E s a→aops P T reg own i (reg.drop i) s (Q .norm) (fun d=>Q (.panic d))→Post lo base Q E0 om0 .normal a E.w:=by
  intro listed i s E a hsz hi hL hr hx hs h
  have hall:=ready_nil hok.back hsz hr
  have:i=ops.size:=by
   rcases zl i ops.size with hlt | hge
   ·have:=(hL i hlt).1 (hall i hlt)
    omega
   ·omega
  rw [List.drop_eq_nil_of_le (by omega)] at h
  simp only [aops] at h
  exact ⟨E,.norm,s,h,trivial,rfl,hx.toB hb0,hs⟩
 intro fuel
 induction fuel with
 | zero=>
  intro listed i s E a hsz hcl hm hi hL hf hx hs h
  have hr:Region.ready .any ops listed=[]:=by
   cases hr:Region.ready .any ops listed with
   | nil=>rfl
   | cons j l=>
    have:j∈Region.ready .any ops listed:=by rw [hr]; simp
    have:=(mem_ready.1 this).1
    have:=unl_set this
    omega
  exact ⟨hr,stop listed i s E a hsz hi hL hr hx hs h⟩
 | succ fuel ih=>
  intro listed i s E a hsz hcl hm hi hL hf hx hs h
  refine ⟨fun hr=>stop listed i s E a hsz hi hL hr hx hs h,fun j hj=>?_⟩
  obtain ⟨hjl,o,ho,_⟩:=mem_ready.1 hj
  have hjs:=(Array.getElem?_eq_some_iff.1 ho).1
  have hji:j=i:=by
   have h1:¬ j<i:=fun hlt=>by have:=(hL j hjs).2 hlt; rw [this] at hjl; cases hjl
   rcases zl i j with hlt | hge
   ·have:=(hok.tail j i o (by omega) (by simpa using hlt) ho).elim (fun hp=>absurd (hok.prem i hp) (by omega)) fun h=>ready_reach hcl hj h
    have hi':i<ops.size:=by omega
    rw [← getD_true_of (by omega)] at this
    have:=(hL i hi').1 this
    omega
   ·omega
  subst hji
  have hlt:j<reg.length:=by omega
  rw [List.drop_eq_getElem_cons hlt] at h
  have hl:reg[j]=lop o:=by
   have:reg[j]? = some (lop o):=by rw [← hreg]; simp [ho]
   rw [zc hlt] at this
   simpa using this
  simp only [aops,hl,lop] at h
  have hL':∀ j',j'<ops.size→((listed.setIfInBounds j true).getD j' true=true↔j'<j+1):=by
   intro j' hj'
   rw [set_getD (by omega)]
   by_cases e:j'=j
   ·subst e; simp
   ·rw [if_neg e,hL j' hj']; omega
  have hu:=unl_set hjl
  have next:∀ (E':Env) (s':St) (a':Act),aops P T reg own (j+1) (reg.drop (j+1)) s' (Q .norm) (fun d=>Q (.panic d))→Ext E s.om E' s'.om→Sat lo E' s' a'→wpAnyIn (fence r) 0 P .any ops (Post lo base Q E0 om0) fuel (listed.setIfInBounds j true) a' E'.w:=
   fun E' s' a' hk hx' hs'=>ih _ (j+1) s' E' a' (by simp [hsz]) (closed_set hcl hj) (by omega) (by omega) hL' (by omega) (hx.trans hx') hs' hk
  have run:aop P T (own.contains j) o.op o.dst s (fun s'=>aops P T reg own (j+1) (reg.drop (j+1)) s' (Q .norm) (fun d=>Q (.panic d))) (fun d=>Q (.panic d)) →
    o.wpIn (fence r) 0 P a E.w (wpAnyIn (fence r) 0 P .any ops (Post lo base Q E0 om0) fuel (listed.setIfInBounds j true)) (Post lo base Q E0 om0):=by
   intro h
   refine aop_ok hT (own.contains j) hs h r (aop_notDefer h) (fun E' s' a' hk hx' hs'=>next E' s' a' hk hx' hs') ?_
   intro E' s' y d hk hx' hs' hd
   exact ⟨E',.panic d,s',hk,⟨y,rfl,hd⟩,rfl,(hx.trans hx').toB hb0,hs'⟩
  unfold wpOpIn
  simp only [ho]
  split at h
  ·rename_i hg
   have:Region.wanted o (yielded ops a.tmps)=true:=by unfold Region.wanted; rw [hg]
   rw [if_pos this]
   exact run h
  ·rename_i j' want hg
   split at h
   ·rename_i t ht
    split at h
    ·rename_i hb
     have hw:=wanted_ok hreg hs hg ht hb
     rw [if_pos hw]
     exact run h
    ·rename_i hb
     have hw:=wanted_ok hreg hs hg ht hb
     rw [if_neg (by rw [hw]; simp)]
     refine ⟨fun _ _=>trivial,?_⟩
     refine next E _ _ h ?_ (hs.put (Ext.refl E s.om) hs.rel (.v undef) _)
     cases o.dst <;> exact Ext.refl _ _
    ·exact h.elim
   ·exact h.elim
theorem looked_mem {ops:Array Oper} {o:Oper} {t:Tmp} (h:Operand.tmp t∈o.op.operands.toList):t∈looked ops o:=by
 refine List.mem_append_left _ ?_
 unfold opTmps
 exact List.mem_filterMap.2 ⟨.tmp t,h,rfl⟩
inductive OT where
 | done
 | op (i:Nat) (t:OT)
 | both (a b:OT)
 | free (ds:List (List Nat))
def otL:List OT→OT
 | []=>.done
 | [t]=>t
 | t :: l=>.both t (otL l)
def mkTree (ops:Array Oper):Nat→Array Bool→OT
 | 0,_=>.done
 | f+1,listed=>otL ((Region.ready .any ops listed).map fun i=>.op i (mkTree ops f (listed.setIfInBounds i true)))
def freeP (P:Program) (T:Tab) (reg:List LOp) (own:List Nat) (ds:List (List Nat)) (s:St) (K:St→Prop) (KP:D→St→Prop):Prop:=
 ∃ I:(Nat→Bool)→St→Prop,I (fun _=>false) s ∧
  (∀ (i:Nat) (o:LOp) (L:Nat→Bool) (s':St),reg[i]? = some o→L i=false→(∀ j∈ds.getD i [],L j=true)→I L s' →
   ∀ K':St→Prop,(∀ s'',I (fun j=>if j=i then true else L j) s''→K' s'')→aop P T (own.contains i) o.op o.dst s' K' KP) ∧
  (∀ (L:Nat→Bool) (s':St),(∀ i,i<reg.length→L i=true)→I L s'→K s')
def treeP (P:Program) (T:Tab) (reg:List LOp) (own:List Nat):OT→St→(St→Prop)→(D→St→Prop)→Prop
 | .done,s,K,_=>K s
 | .op i t,s,K,KP=>
  match reg[i]? with
  | some o=>aop P T (own.contains i) o.op o.dst s (fun s'=>treeP P T reg own t s' K KP) KP
  | none=>False
 | .both a b,s,K,KP=>treeP P T reg own a s K KP∧treeP P T reg own b s K KP
 | .free ds,s,K,KP=>freeP P T reg own ds s K KP
theorem treeP_otL {reg:List LOp} {own:List Nat} {s:St} {K:St→Prop} {KP:D→St→Prop}:∀ {l:List OT},treeP P T reg own (otL l) s K KP→∀ t∈l,treeP P T reg own t s K KP
 | [],_,t,h=>by simp at h
 | [t0],h,t,ht=>by
  simp only [List.mem_singleton] at ht
  subst ht
  exact h
 | t0 :: t1 :: l,h,t,ht=>by
  rcases List.mem_cons.1 ht with rfl | ht
  ·exact h.1
  ·exact treeP_otL (l:=t1 :: l) h.2 t ht
theorem any_tree {lo:Lo} {base:Nat} {r:Option Nat} (hT:TabOk P T) {ops:Array Oper} {reg:List LOp} (hreg:ops.toList.map lop=reg) {pre:List Nat} {m:Nat} (hok:DrawOk ops pre m false) (own:List Nat) {Q:AX→St→Prop} {E0:Env} {om0:List Ob} (hb0:base≤E0.n) :
  ∀ (tf fuel:Nat) (listed:Array Bool) (s:St) (E:Env) (a:Act),listed.size=ops.size→Closed ops listed→(∀ j,j<m→j<ops.size→listed.getD j true=true)→unl listed≤fuel→unl listed≤tf →
   Ext E0 om0 E s.om→Sat lo E s a→treeP P T reg own (mkTree ops tf listed) s (Q .norm) (fun d=>Q (.panic d))→wpAnyIn (fence r) 0 P .any ops (Post lo base Q E0 om0) fuel listed a E.w:=by
 have hzero:∀ (listed:Array Bool),unl listed≤0→Region.ready .any ops listed=[]:=by
  intro listed hf
  cases hr:Region.ready .any ops listed with
  | nil=>rfl
  | cons j l=>
   have:j∈Region.ready .any ops listed:=by rw [hr]; simp
   have:=(mem_ready.1 this).1
   have:=unl_set this
   omega
 intro tf
 induction tf with
 | zero=>
  intro fuel listed s E a hsz hcl hL hf htf hx hs h
  simp only [mkTree,treeP] at h
  exact wpAnyIn_done (hzero listed htf) ⟨E,.norm,s,h,trivial,rfl,hx.toB hb0,hs⟩ fuel
 | succ tf ih=>
  intro fuel listed s E a hsz hcl hL hf htf hx hs h
  cases fuel with
  | zero=>
   have hr:=hzero listed hf
   simp only [mkTree,hr,List.map_nil,otL,treeP] at h
   exact wpAnyIn_done hr ⟨E,.norm,s,h,trivial,rfl,hx.toB hb0,hs⟩ 0
  | succ fuel=>
   refine ⟨fun hr=>?_,fun j hj=>?_⟩
   ·simp only [mkTree,hr,List.map_nil,otL,treeP] at h
    exact ⟨E,.norm,s,h,trivial,rfl,hx.toB hb0,hs⟩
   ·obtain ⟨hjl,o,ho,_⟩:=mem_ready.1 hj
    have hjs:=(Array.getElem?_eq_some_iff.1 ho).1
    have hm:m≤j:=by
     rcases zl j m with hlt | hge
     ·have:=hL j hlt hjs; rw [this] at hjl; cases hjl
     ·exact hge
    have hg:=hok.grd j o hm rfl ho
    simp only [mkTree] at h
    have h1:=treeP_otL h _ (List.mem_map.2 ⟨j,hj,rfl⟩)
    have hl:reg[j]? = some (lop o):=by rw [← hreg]; simp [ho]
    simp only [treeP,hl,lop] at h1
    have hu:=unl_set hjl
    unfold wpOpIn
    simp only [ho]
    have hw:Region.wanted o (yielded ops a.tmps)=true:=by unfold Region.wanted; rw [hg]
    rw [if_pos hw]
    refine aop_ok hT (own.contains j) hs h1 r (aop_notDefer h1) (fun E' s' a' hk hx' hs'=>?_) (fun E' s' y d hk hx' hs' hd=>?_)
    ·refine ih fuel _ s' E' a' (by simp [hsz]) (closed_set hcl hj) (fun k hk1 hk2=>?_) (by omega) (by omega) (hx.trans hx') hs' hk
     rw [set_getD (by omega)]
     split
     ·rfl
     ·exact hL k hk1 hk2
    ·exact ⟨E',.panic d,s',hk,⟨y,rfl,hd⟩,rfl,(hx.trans hx').toB hb0,hs'⟩
def headMask (n m:Nat):Array Bool:=((List.range n).map fun j=>decide (j<m)).toArray
def depsOf (ops:Array Oper):List (List Nat):=ops.toList.map fun o=>(o.after.toList.filter fun e=>Region.binds .any e).map (·.on)
def backB (ops:Array Oper):Bool:=(List.range ops.size).all fun i=>((depsOf ops).getD i []).all fun j=>decide (j<i)
theorem treeP_otL2 {reg:List LOp} {own:List Nat} {s:St} {K:St→Prop} {KP:D→St→Prop}:∀ {l:List OT},l≠[]→(∀ t∈l,treeP P T reg own t s K KP)→treeP P T reg own (otL l) s K KP
 | [],h,_=>absurd rfl h
 | [t0],_,h=>h t0 (by simp)
 | t0 :: t1 :: l,_,h=>⟨h t0 (by simp),treeP_otL2 (l:=t1 :: l) (by simp) fun t ht=>h t (by simp [ht])⟩
theorem deps_get {ops:Array Oper} {i:Nat} {o:Oper} (ho:ops[i]? = some o):(depsOf ops).getD i []=(o.after.toList.filter fun e=>Region.binds .any e).map (·.on):=by
 unfold depsOf
 rw [zb,zm,Array.getElem?_toList,ho]; rfl
theorem getD_ff {listed:Array Bool} {i:Nat} (h:i<listed.size):listed.getD i false=listed.getD i true:=by simp [zd,h]
theorem free_tree {ops:Array Oper} {reg:List LOp} (hreg:ops.toList.map lop=reg) {own:List Nat} {s:St} {K:St→Prop} {KP:D→St→Prop} (hb:backB ops=true) (h:freeP P T reg own (depsOf ops) s K KP) :
  treeP P T reg own (mkTree ops ops.size (headMask ops.size 0)) s K KP:=by
 obtain ⟨I,h0,hs,hf⟩:=h
 have hlen:reg.length=ops.size:=by rw [← hreg]; simp
 have all_of:∀ listed:Array Bool,listed.size=ops.size→(∀ i,i<ops.size→listed.getD i true=true)→∀ s,I (fun j=>listed.getD j false) s→K s:=by
  intro listed hsz hl s hI
  refine hf _ s (fun i hi=>?_) hI
  rw [hlen] at hi
  show listed.getD i false=true
  rw [getD_ff (by omega)]
  exact hl i hi
 have key:∀ (f:Nat) (listed:Array Bool) (s:St),listed.size=ops.size→unl listed≤f→I (fun j=>listed.getD j false) s→treeP P T reg own (mkTree ops f listed) s K KP:=by
  intro f
  induction f with
  | zero=>
   intro listed s hsz hu hI
   refine all_of listed hsz (fun i hi=>?_) s hI
   cases hl:listed.getD i true with
   | true=>rfl
   | false=>have:=unl_set hl; omega
  | succ f ih=>
   intro listed s hsz hu hI
   rw [mkTree]
   cases hr:Region.ready .any ops listed with
   | nil =>
    refine all_of listed hsz (fun i=>?_) s hI
    induction i using Nat.strongRecOn with
    | _ i ihi=>
     intro hi
     cases hl:listed.getD i true with
     | true=>rfl
     | false=>
      exfalso
      obtain ⟨o,ho⟩:∃ o,ops[i]? = some o:=⟨ops[i],by simp [hi]⟩
      have hm:i∈Region.ready .any ops listed:=by
       unfold Region.ready
       rw [List.mem_filter]
       refine ⟨List.mem_range.2 hi,?_⟩
       rw [hl,ho]
       simp only [Bool.not_false,Bool.true_and,Option.map_some,Option.getD_some]
       rw [Array.all_eq_true]
       intro k hk
       cases hbd:Region.binds .any o.after[k] with
       | false=>rfl
       | true=>
        have h2:=List.all_eq_true.1 hb i (List.mem_range.2 hi)
        have h3:=List.all_eq_true.1 h2 o.after[k].on (by
         rw [deps_get ho]
         exact List.mem_map.2 ⟨o.after[k],List.mem_filter.2 ⟨by simp,hbd⟩,rfl⟩)
        have h4:o.after[k].on<i:=by simpa using h3
        simp only [Bool.not_true,Bool.false_or]
        rw [getD_ff (by omega)]
        exact ihi _ h4 (by omega)
      rw [hr] at hm
      cases hm
   | cons j0 l0=>
    rw [← hr]
    refine treeP_otL2 (by rw [hr]; simp) fun t ht=>?_
    obtain ⟨i,hi,rfl⟩:=List.mem_map.1 ht
    unfold Region.ready at hi
    rw [List.mem_filter] at hi
    obtain ⟨hi1,hi2⟩:=hi
    have hi1:=List.mem_range.1 hi1
    obtain ⟨o,ho⟩:∃ o,ops[i]? = some o:=⟨ops[i],by simp [hi1]⟩
    rw [ho] at hi2
    simp only [Option.map_some,Option.getD_some,zj,Bool.not_eq_true'] at hi2
    obtain ⟨hl,hd⟩:=hi2
    have hro:reg[i]? = some (lop o):=by rw [← hreg]; simp [ho]
    have hu':=unl_set hl
    simp only [treeP,hro]
    refine hs i (lop o) (fun j=>listed.getD j false) s hro (by show listed.getD i false=false; rw [getD_ff (by omega)]; exact hl) (fun j hj=>?_) hI _ fun s'' hI'=>?_
    ·rw [deps_get ho] at hj
     obtain ⟨e,he,rfl⟩:=List.mem_map.1 hj
     obtain ⟨he1,he2⟩:=List.mem_filter.1 he
     have he1':e∈o.after:=by simpa using he1
     obtain ⟨k,hk,hek⟩:=Array.mem_iff_getElem.1 he1'
     have h2:=(Array.all_eq_true.1 hd) k hk
     rw [hek,he2] at h2
     simpa using h2
    ·refine ih _ s'' (by simp [hsz]) (by omega) ?_
     have e:(fun j=>(listed.setIfInBounds i true).getD j false)=fun j=>if j=i then true else listed.getD j false:=by
      funext j
      by_cases hj:j<listed.size
      ·rw [getD_ff (by simpa using hj),set_getD (by omega),getD_ff hj]
      ·have:¬ j=i:=by omega
       simp [zd,hj,this]
     rw [e]
     exact hI'
 refine key ops.size _ s (by simp [headMask]) ?_ ?_
 ·unfold unl
  refine Nat.le_trans (zf) ?_
  simp [headMask]
 ·have e:(fun j=>(headMask ops.size 0).getD j false)=fun _=>false:=by
   funext j
   simp [headMask,zd]
  rw [e]
  exact h0
theorem closed_none {ops:Array Oper} {n:Nat}:Closed ops (za n false):=by
 intro i o e ho hl he hb
 exfalso
 simp [zh,Array.getElem?_replicate] at hl
 split at hl <;> simp at hl
theorem mask_eq {listed:Array Bool} {n m:Nat} (hsz:listed.size=n) (h:∀ j,j<n→(listed.getD j true=true↔j<m)):listed=headMask n m:=by
 refine Array.ext (by simp [headMask,hsz]) fun j h1 h2=>?_
 have hj:j<n:=by omega
 have:=h j hj
 have e1:listed.getD j true=listed[j]:=by simp [zd,h1]
 rw [e1] at this
 simp only [headMask,List.getElem_toArray,List.getElem_map,List.getElem_range]
 cases hb:listed[j] with
 | true=>rw [hb] at this; simp [this.1 rfl]
 | false=>
  rw [hb] at this
  have:¬ j<m:=fun h=>by have:=this.2 h; cases this
  simp [this]
theorem qBin_plain {op:BinOp} {t:Nat} {x y d:D} (h:qBin T op t x y=some d) (h1:op≠.eql) (h2:op≠.neq):∃ a b z,x=.v a∧y=.v b∧d=.v z:=by
 unfold qBin at h
 split at h
 ·split at h
  ·split at h
   ·simp only [Option.some.injEq] at h; exact ⟨_,_,_,rfl,rfl,h.symm⟩
   ·simp at h
  ·split at h
   ·simp only [Option.some.injEq] at h; exact ⟨_,_,_,rfl,rfl,h.symm⟩
   ·simp at h
  ·split at h
   ·simp only [zi] at h; obtain ⟨v,_,rfl⟩:=h; exact ⟨_,_,_,rfl,rfl,rfl⟩
   ·simp at h
 ·simp only [zi] at h; obtain ⟨v,_,rfl⟩:=h; exact ⟨_,_,_,rfl,rfl,rfl⟩
 ·split at h
  ·simp only [Option.some.injEq] at h; exact ⟨_,_,_,rfl,rfl,h.symm⟩
  ·simp only [Option.some.injEq] at h; exact ⟨_,_,_,rfl,rfl,h.symm⟩
  ·simp at h
 ·exact absurd h (by unfold ptrEq; split <;> simp_all)
 ·exact absurd h (by unfold ptrEq; split <;> simp_all)
 ·exact absurd h (by unfold ptrEq; split <;> simp_all)
 ·exfalso
  split at h
  ·split at h
   ·split at h
    ·split at h
     ·exact h1 rfl
     ·exact h2 rfl
     ·simp at h
    ·simp at h
   ·simp at h
  ·simp at h
 ·simp at h
def pureOp (o:Oper):Bool:=
 o.guard.isNone && match o.op with
  | .move _=>true
  | .binOp op _ _ _ _=>match op with
   | .add | .sub | .mul=>true
   | _=>false
  | _=>false
theorem yields_of {lo:Lo} (hT:TabOk P T) {ops:Array Oper} {o:Oper} {E:Env} {s:St} {a:Act} {d:D} (hp:pureOp o=true) (hs:Sat lo E s a) (h:aopQ P T o.op (evD s.env) s.om (· = d)):∃ v,YieldsFenced P ops o v a∧Rd E d v:=by
 have hdep:4≤P.depth:=by simp only [Program.depth,Made.depth]; omega
 unfold pureOp at hp
 simp only [zj,Option.isNone_iff_eq_none] at hp
 obtain ⟨hg,hp⟩:=hp
 have hw:∀ tmps,Region.wanted o tmps=true:=by intro tmps; unfold Region.wanted; rw [hg]
 split at hp
 ·rename_i x hop
  rw [hop] at h
  simp only [aopQ] at h
  subst h
  exact ⟨a.eval x,⟨.inl ⟨hw _,fun w=>by simp [execOp,hop]⟩,fun w=>by unfold Oper.about; rw [hop]⟩,hs.ev x⟩
 ·rename_i op t x y yt hop
  rw [hop] at h
  simp only [aopQ] at h
  obtain ⟨d',hd',rfl⟩:=opt_elim h
  have hne:op≠.eql∧op≠.neq:=by
   split at hp <;> simp_all
  obtain ⟨va,vb,z,e1,e2,rfl⟩:=qBin_plain hd' hne.1 hne.2
  have ea:a.eval x=va:=by have:=hs.ev x; rw [e1] at this; exact this.v_inv
  have eb:a.eval y=vb:=by have:=hs.ev y; rw [e2] at this; exact this.v_inv
  refine ⟨z,⟨.inl ⟨hw _,fun w=>?_⟩,fun w=>by unfold Oper.about; rw [hop]⟩,.v z⟩
  obtain ⟨z',hz,hzd⟩:=qBin_ok hT hdep (E:={ E with w:=w }) x y hd' (a:=a.eval x) (b:=a.eval y) (by rw [e1,ea]; exact .v _) (by rw [e2,eb]; exact .v _)
  have:=hzd.v_inv
  subst this
  have e:execOp a.eval o=(do pure (.value (← (do eqGuard op t x y (a.eval x) (a.eval y); binOp op t (a.eval x) (a.eval y):Sem Value))):Sem Next):=by simp [execOp,hop]
  rw [e]
  simp only [Sem.run_bind,hz,Result.andThen_ok,Sem.run_pure]
 ·cases hp
def preOk (ops:Array Oper):Array Bool→List Nat→Bool
 | _,[]=>true
 | l,i :: r=>Region.noSelect ops && Region.free .any ops l i && (Region.ready .any ops l).contains i && (match ops[i]? with | some o=>pureOp o | none=>false) && preOk ops (l.setIfInBounds i true) r
theorem any_head {lo:Lo} {base:Nat} {r:Option Nat} (hT:TabOk P T) {ops:Array Oper} {reg:List LOp} (hreg:ops.toList.map lop=reg) {pre:List Nat} {m:Nat} {lin:Bool} (hok:DrawOk ops pre m lin) {Q:AX→St→Prop} {E0:Env} {s0:St} {ds:List D} (hb0:base≤E0.n) (hrp:pre≠[]→r=none) (hQp:pre≠[]→∀ d s env,Q (.panic d) s→Q (.panic d) ⟨env,s.om⟩)
  (hds:ds.length=(reg.take m).length)
  (hfin:∀ (fuel:Nat) (listed:Array Bool) (E:Env) (a:Act),listed.size=ops.size→Closed ops listed→(∀ j,j<ops.size→(listed.getD j true=true↔j<m))→unl listed≤fuel →
   Ext E0 s0.om E s0.om→Sat lo E ⟨denv (fun _=>true) 0 (reg.take m) ds s0.env,s0.om⟩ a→wpAnyIn (fence r) 0 P .any ops (Post lo base Q E0 s0.om) fuel listed a E.w)
  (hstep:∀ i o d,(reg.take m)[i]? = some o→ds[i]? = some d→StepOk P T reg s0.om o (denv (fun j=>decide (j<i)) 0 (reg.take m) ds s0.env) d) :
  ∀ (fuel:Nat) (listed:Array Bool) (todo:List Nat) (E:Env) (a:Act),listed.size=ops.size→Closed ops listed→(∀ j∈pre,listed.getD j true=true∨j∈todo)→(∀ j∈todo,j∈pre)→preOk ops listed todo=true→(∀ j,m≤j→j<ops.size→listed.getD j true=false)→unl listed≤fuel →
   Ext E0 s0.om E s0.om→Sat lo E ⟨denv (fun j=>listed.getD j true) 0 (reg.take m) ds s0.env,s0.om⟩ a→wpAnyIn (fence r) 0 P .any ops (Post lo base Q E0 s0.om) fuel listed a E.w:=by
 have hlen:ops.size=reg.length:=by rw [← hreg]; simp
 have hmr:(reg.take m).length=m:=by have:=hok.le; simp; omega
 have hget:∀ (i:Nat) (o:Oper),ops[i]? = some o→i<m→(reg.take m)[i]? = some (lop o):=by
  intro i o ho hi
  rw [List.getElem?_take_of_lt hi,← hreg]
  simp [ho]
 have hget':∀ (i:Nat) (l:LOp),(reg.take m)[i]? = some l→∃ o,ops[i]? = some o∧l=lop o∧i<m:=by
  intro i l h
  have hi:=(List.getElem?_eq_some_iff.1 h).1
  rw [hmr] at hi
  rw [List.getElem?_take_of_lt hi,← hreg] at h
  simp only [zm,zi,Array.getElem?_toList] at h
  obtain ⟨o,ho,rfl⟩:=h
  exact ⟨o,ho,rfl,hi⟩
 have full:∀ (fuel:Nat) (listed:Array Bool) (E:Env) (a:Act),listed.size=ops.size→Closed ops listed→(∀ j,m≤j→j<ops.size→listed.getD j true=false)→unl listed≤fuel →
   Ext E0 s0.om E s0.om→Sat lo E ⟨denv (fun j=>listed.getD j true) 0 (reg.take m) ds s0.env,s0.om⟩ a→(∀ j,j<m→listed.getD j true=true)→wpAnyIn (fence r) 0 P .any ops (Post lo base Q E0 s0.om) fuel listed a E.w:=by
  intro fuel listed E a hsz hcl ht hf hx hs hall
  have:denv (fun j=>listed.getD j true) 0 (reg.take m) ds s0.env=denv (fun _=>true) 0 (reg.take m) ds s0.env:=denv_congr fun j hj=>by
   rw [ze]
   exact hall j (by omega)
  rw [this] at hs
  refine hfin fuel listed E a hsz hcl (fun j hj=>?_) hf hx hs
  constructor
  ·intro h
   rcases zl j m with hlt | hge
   ·exact hlt
   ·rw [ht j hge hj] at h; cases h
  ·intro h; exact hall j h
 have core:∀ (listed:Array Bool) (i:Nat) (o:Oper),listed.size=ops.size→i∈Region.ready .any ops listed→ops[i]? = some o→i<m→∃ d,ds[i]? = some d∧StepOk P T reg s0.om (lop o) (denv (fun j=>decide (j<i)) 0 (reg.take m) ds s0.env) d ∧
   (∀ u,u∈looked ops o→(denv (fun j=>decide (j<i)) 0 (reg.take m) ds s0.env).getD u .any=(denv (fun j=>listed.getD j true) 0 (reg.take m) ds s0.env).getD u .any) ∧
   putE (denv (fun j=>listed.getD j true) 0 (reg.take m) ds s0.env) o.dst d=denv (fun j=>(listed.setIfInBounds i true).getD j true) 0 (reg.take m) ds s0.env:=by
  intro listed i o hsz hi ho him
  have hro:=hget i o ho him
  obtain ⟨d,hd⟩:∃ d,ds[i]? = some d:=⟨ds[i]'(by rw [hds,hmr]; exact him),zc (by rw [hds,hmr]; exact him)⟩
  have hst:=hstep i (lop o) d hro hd
  have his:=(Array.getElem?_eq_some_iff.1 ho).1
  have hil:=(mem_ready.1 hi).1
  have hlook:∀ u,u∈looked ops o→(denv (fun j=>decide (j<i)) 0 (reg.take m) ds s0.env).getD u .any=(denv (fun j=>listed.getD j true) 0 (reg.take m) ds s0.env).getD u .any:=by
   intro u hu
   by_cases hex:∃ (j:Nat) (l:LOp),(reg.take m)[j]? = some l∧l.dst=some u
   ·obtain ⟨j,l,hj,hl⟩:=hex
    obtain ⟨oj,hoj,rfl,hjm⟩:=hget' j l hj
    obtain ⟨hji,hedge⟩:=hok.look i j o oj u him hjm ho hoj hu hl
    have hlj:=hasEdge_listed ho hi hedge
    rw [← getD_true_of (by have:=hok.le; omega)] at hlj
    obtain ⟨dj,hdj⟩:∃ d,ds[j]? = some d:=⟨ds[j]'(by rw [hds,hmr]; exact hjm),zc (by rw [hds,hmr]; exact hjm)⟩
    have huniq:∀ j' o',(reg.take m)[j']? = some o'→o'.dst=some u→j'=j:=by
     intro j' l' hj' hl'
     obtain ⟨oj',hoj',rfl,hjm'⟩:=hget' j' l' hj'
     by_cases e:j'=j
     ·exact e
     ·rcases hok.dst j j' oj oj' hjm hjm' hoj hoj' e with h | h
      ·have:oj'.dst=some u:=hl'
       rw [h] at this; cases this
      ·have h1:oj'.dst=some u:=hl'
       have h2:oj.dst=some u:=hl
       rw [h1,h2] at h
       exact absurd rfl h
    by_cases hul:u<s0.env.length
    ·rw [denv_new (L:=fun j=>decide (j<i)) hj hdj hl (by simpa using hji) hul huniq,denv_new (L:=fun j=>listed.getD j true) hj hdj hl (by rw [ze]; exact hlj) hul huniq]
    ·have h1:(denv (fun j=>decide (j<i)) 0 (reg.take m) ds s0.env).length≤u:=by rw [denv_length]; exact Nat.le_of_not_lt hul
     have h2:(denv (fun j=>listed.getD j true) 0 (reg.take m) ds s0.env).length≤u:=by rw [denv_length]; exact Nat.le_of_not_lt hul
     rw [zb,zb,zk h1,zk h2]
   ·rw [denv_old (fun j l hj hl=>absurd ⟨j,l,hj,hl⟩ hex),denv_old (fun j l hj hl=>absurd ⟨j,l,hj,hl⟩ hex)]
  have hput:putE (denv (fun j=>listed.getD j true) 0 (reg.take m) ds s0.env) o.dst d=denv (fun j=>(listed.setIfInBounds i true).getD j true) 0 (reg.take m) ds s0.env:=by
   apply List.ext_getElem?
   intro u
   have getE:∀ (l:List D),l.length=s0.env.length→l[u]? = if u<s0.env.length then some (l.getD u .any) else none:=by
    intro l hl
    split
    ·rename_i h; simp [zb,zc (show u<l.length by omega)]
    ·rename_i h; exact zk (by omega)
   rw [getE _ (by rw [putE_length,denv_length]),getE _ (by rw [denv_length])]
   split
   ·rename_i hul
    congr 1
    by_cases hdu:o.dst=some u
    ·have huniq:∀ j' o',(reg.take m)[j']? = some o'→o'.dst=some u→j'=i:=by
      intro j' l' hj' hl'
      obtain ⟨oj',hoj',rfl,hjm'⟩:=hget' j' l' hj'
      by_cases e:j'=i
      ·exact e
      ·rcases hok.dst i j' o oj' him hjm' ho hoj' e with h | h
       ·have:oj'.dst=some u:=hl'
        rw [h] at this; cases this
       ·have h1:oj'.dst=some u:=hl'
        rw [h1,hdu] at h
        exact absurd rfl h
     rw [hdu,putE_getD_eq (by rw [denv_length]; exact hul)]
     rw [denv_new (L:=fun j=>(listed.setIfInBounds i true).getD j true) hro hd (by exact hdu) (by rw [ze,set_getD (by omega),if_pos rfl]) hul huniq]
    ·rw [putE_getD_ne hdu]
     by_cases hex:∃ (j:Nat) (l:LOp),(reg.take m)[j]? = some l∧l.dst=some u
     ·obtain ⟨j,l,hj,hl⟩:=hex
      obtain ⟨oj,hoj,rfl,hjm⟩:=hget' j l hj
      have hji:j≠i:=by
       rintro rfl
       rw [ho] at hoj
       injection hoj with hoj
       subst hoj
       exact hdu hl
      obtain ⟨dj,hdj⟩:∃ d,ds[j]? = some d:=⟨ds[j]'(by rw [hds,hmr]; exact hjm),zc (by rw [hds,hmr]; exact hjm)⟩
      have huniq:∀ j' o',(reg.take m)[j']? = some o'→o'.dst=some u→j'=j:=by
       intro j' l' hj' hl'
       obtain ⟨oj',hoj',rfl,hjm'⟩:=hget' j' l' hj'
       by_cases e:j'=j
       ·exact e
       ·rcases hok.dst j j' oj oj' hjm hjm' hoj hoj' e with h | h
        ·have:oj'.dst=some u:=hl'
         rw [h] at this; cases this
        ·have h1:oj'.dst=some u:=hl'
         have h2:oj.dst=some u:=hl
         rw [h1,h2] at h
         exact absurd rfl h
      cases hlj:listed.getD j true with
      | true=>
       rw [denv_new (L:=fun j=>listed.getD j true) hj hdj hl (by rw [ze]; exact hlj) hul huniq,denv_new (L:=fun j=>(listed.setIfInBounds i true).getD j true) hj hdj hl (by rw [ze,set_getD (by omega),if_neg hji]; exact hlj) hul huniq]
      | false=>
       have hno:∀ (L:Nat→Bool),L j=false→∀ j' o',(reg.take m)[j']? = some o'→o'.dst=some u→L (0+j')=false:=by
        intro L hL j' o' h1 h2
        rw [huniq j' o' h1 h2,ze]
        exact hL
       rw [denv_old (hno (fun j=>listed.getD j true) hlj),denv_old (hno (fun j=>(listed.setIfInBounds i true).getD j true) (by rw [set_getD (by omega),if_neg hji]; exact hlj))]
     ·rw [denv_old (fun j l hj hl=>absurd ⟨j,l,hj,hl⟩ hex),denv_old (fun j l hj hl=>absurd ⟨j,l,hj,hl⟩ hex)]
   ·rfl
  exact ⟨d,hd,hst,hlook,hput⟩
 intro fuel
 induction fuel with
 | zero=>
  intro listed todo E a hsz hcl hpl htd hpo ht hf hx hs
  refine full 0 listed E a hsz hcl ht hf hx hs fun j hj=>?_
  cases hb:listed.getD j true with
  | true=>rfl
  | false=>have:=unl_set hb; omega
 | succ fuel ih=>
  intro listed todo E a hsz hcl hpl htd hpo ht hf hx hs
  cases todo with
  | cons i r=>
   have hpre:pre≠[]:=by
    have:=htd i (by simp)
    intro e
    rw [e] at this
    simp at this
   obtain rfl:=hrp hpre
   have hro:(fence none).round=none:=rfl
   have him:=hok.prem i (htd i (by simp))
   simp only [preOk,zj] at hpo
   obtain ⟨⟨⟨⟨p1,p2⟩,p3⟩,p4⟩,p5⟩:=hpo
   have hi:i∈Region.ready .any ops listed:=by simpa using p3
   obtain ⟨hil,o,ho,_⟩:=mem_ready.1 hi
   simp only [ho] at p4
   have his:=(Array.getElem?_eq_some_iff.1 ho).1
   obtain ⟨d,hd,hst,hlook,hput⟩:=core listed i o hsz hi ho him
   have hev:∀ x∈o.op.operands.toList,evD (denv (fun j=>decide (j<i)) 0 (reg.take m) ds s0.env) x=evD (denv (fun j=>listed.getD j true) 0 (reg.take m) ds s0.env) x:=by
    intro x hx'
    cases x with
    | tmp t=>exact hlook t (looked_mem hx')
    | _=>rfl
   have hg:o.guard=none:=by
    unfold pureOp at p4
    simp only [zj,Option.isNone_iff_eq_none] at p4
    exact p4.1
   have hst':aopQ P T o.op (evD (denv (fun j=>decide (j<i)) 0 (reg.take m) ds s0.env)) s0.om (· = d):=by
    unfold StepOk at hst
    split at hst
    ·exact hst
    ·rename_i j want hg'
     have hg':o.guard=some (j,want):=hg'
     rw [hg] at hg'
     cases hg'
   obtain ⟨v,hy,hvd⟩:=yields_of (ops:=ops) hT p4 hs (aopQ_congr hev hst')
   have hu:=unl_set hil
   refine wpAnyIn_take hro ho p1 p2 p3 ?_ hy ?_
   ·rintro c a1 w ⟨E',x,s',hq,hcx,hw,hext,hsat⟩
    cases x <;> simp only [cx] at hcx
    rename_i dp
    exact ⟨E',.panic dp,⟨zn a1.tmps.size .any,s'.om⟩,hQp hpre _ _ _ hq,hcx,hw,hext,hsat.rel,by cases ho':o.dst <;> (have:=hsat.defs; rw [ho'] at this; exact this),by simp,fun t=>by
     have:(zn a1.tmps.size D.any).getD t .any=.any:=by
      simp only [zb,List.getElem?_replicate]
      split <;> rfl
     show Rd E' ((zn a1.tmps.size D.any).getD t .any) _
     rw [this]
     exact .any _⟩
   ·have hs':=hs.put (Ext.refl E s0.om) hs.rel hvd o.dst
    rw [put_eq,hput] at hs'
    refine ih _ r E _ (by simp [hsz]) (closed_set hcl hi) (fun j hj=>?_) (fun j hj=>htd j (by simp [hj])) p5 (fun j hj1 hj2=>?_) (by omega) hx hs'
    ·rw [set_getD (by omega)]
     rcases hpl j hj with h | h
     ·exact .inl (by split <;> simp_all)
     ·rcases List.mem_cons.1 h with h | h
      ·exact .inl (by rw [if_pos h])
      ·exact .inr h
    ·rw [set_getD (by omega),if_neg (by omega)]
     exact ht j hj1 hj2
  | nil =>
   have hpl:∀ j∈pre,listed.getD j true=true:=fun j hj=>(hpl j hj).elim id fun h=>by simp at h
   by_cases hall:∀ j,j<m→listed.getD j true=true
   ·exact full (fuel+1) listed E a hsz hcl ht hf hx hs hall
   ·refine ⟨fun hr=>?_,fun i hi=>?_⟩
    ·exact absurd (fun j hj=>ready_nil hok.back hsz hr j (by have:=hok.le; omega)) hall
    ·obtain ⟨hil,o,ho,_⟩:=mem_ready.1 hi
     have his:=(Array.getElem?_eq_some_iff.1 ho).1
     have him:i<m:=by
      rcases zl i m with hlt | hge
      ·exact hlt
      ·exfalso
       apply hall
       intro j hj
       rcases hok.tail i j o hge (by split <;> omega) ho with hp | hr
       ·exact hpl j hp
       ·have:=ready_reach hcl hi hr
        rwa [← getD_true_of (by have:=hok.le; omega)] at this
     obtain ⟨d,hd,hst,hlook,hput⟩:=core listed i o hsz hi ho him
     have hev:∀ x∈o.op.operands.toList,evD (denv (fun j=>decide (j<i)) 0 (reg.take m) ds s0.env) x=evD (denv (fun j=>listed.getD j true) 0 (reg.take m) ds s0.env) x:=by
      intro x hx'
      cases x with
      | tmp t=>exact hlook t (looked_mem hx')
      | _=>rfl
     have hu:=unl_set hil
     have next:∀ (E':Env) (a':Act),Ext E s0.om E' s0.om→Sat lo E' (St.put ⟨denv (fun j=>listed.getD j true) 0 (reg.take m) ds s0.env,s0.om⟩ o.dst d) a'→wpAnyIn (fence r) 0 P .any ops (Post lo base Q E0 s0.om) fuel (listed.setIfInBounds i true) a' E'.w:=by
      intro E' a' hx' hs'
      rw [put_eq,hput] at hs'
      refine ih _ [] E' a' (by simp [hsz]) (closed_set hcl hi) (fun j hj=>.inl ?_) (fun j hj=>by simp at hj) rfl (fun j hj1 hj2=>?_) (by omega) (hx.trans hx') hs'
      ·rw [set_getD (by omega)]
       split
       ·rfl
       ·exact hpl j hj
      ·rw [set_getD (by omega),if_neg (by omega)]
       exact ht j hj1 hj2
     have run:aopQ P T o.op (evD (denv (fun j=>decide (j<i)) 0 (reg.take m) ds s0.env)) s0.om (· = d) →
       o.wpIn (fence r) 0 P a E.w (wpAnyIn (fence r) 0 P .any ops (Post lo base Q E0 s0.om) fuel (listed.setIfInBounds i true)) (Post lo base Q E0 s0.om):=by
      intro h
      have h':=aopQ_congr hev h
      have h'':=aopQ_aop (s:=⟨denv (fun j=>listed.getD j true) 0 (reg.take m) ds s0.env,s0.om⟩) (dst:=o.dst) (KP:=fun _ _=>False) h'
      refine aop_ok hT false hs h'' r (aop_notDefer h'') (fun E' s' a' hk hx' hs'=>?_) (fun E' s' y d hk _ _ _=>hk.elim)
      subst hk
      refine next E' a' ?_ hs'
      cases hdst:o.dst <;> (rw [hdst] at hx'; exact hx')
     unfold wpOpIn
     simp only [ho]
     unfold StepOk at hst
     split at hst
     ·rename_i hg
      have:Region.wanted o (yielded ops a.tmps)=true:=by
       unfold Region.wanted
       have hg:o.guard=none:=hg
       rw [hg]
      rw [if_pos this]
      exact run hst
     ·rename_i j want hg
      have hg:o.guard=some (j,want):=hg
      obtain ⟨t,b,ht',hb,hcase⟩:=hst
      have htl:t∈looked ops o:=by
       refine List.mem_append_right _ ?_
       have hd':(ops[j]?).bind (·.dst)=some t:=by
        rw [← hreg] at ht'
        simp only [zm] at ht'
        cases hoj:ops[j]? with
        | none=>simp [hoj] at ht'
        | some oj=>simpa [hoj,lop] using ht'
       rw [hg]
       simp [hd']
      rw [hlook t htl] at hb
      have hw:=wanted_ok hreg hs hg ht' hb
      rcases hcase with ⟨hbw,h⟩ | ⟨hbw,rfl⟩
      ·rw [if_pos (by rw [hw]; exact hbw)]
       exact run h
      ·rw [if_neg (by rw [hw]; simp [hbw])]
       exact ⟨fun _ _=>trivial,next E _ (Ext.refl _ _) (hs.put (Ext.refl E s0.om) hs.rel (.v undef) _)⟩
theorem AW.regionD {base:Nat} (hT:TabOk P T) (hm:P.follows .mixedOrders=true) {id:Nat} {ops:Array Oper} {Q:AX→St→Prop} {s:St} (reg:List LOp) (own:List Nat) (m:Nat) (hreg:ops.toList.map lop=reg) (hok:drawOk ops [] m true=true)
  (h:qops P T reg s.om (reg.take m) s.env fun env=>aops P T reg own m (reg.drop m) ⟨env,s.om⟩ (Q .norm) (fun d=>Q (.panic d))):AW base P (.region id ops true) Q s:=by
 intro r lo E a hr hb hs
 obtain ⟨ds,h1,h2,h3⟩:=qops_facts h
 refine wpIn_region_any hm ?_
 have hrep:∀ j,j<ops.size→(za ops.size false).getD j true=false:=by intro j hj; simp [zd,hj]
 let E1:Env:={ E with w:={ E.w with drawn:=E.w.drawn+1 } }
 have hx:Ext E s.om E1 s.om:=⟨zg _,fun _ _=>rfl,fun _ h=>h,zg _,rfl,rfl,rfl,fun _ _ _=>rfl,fun b hl=>.inl hl,fun b hA=>.inl hA⟩
 have hlen:ops.size=reg.length:=by rw [← hreg]; simp
 have hR1:Rel E1 s.om:=by
  refine ⟨hs.rel.len,fun k o hk=>?_,hs.rel.inj,hs.rel.old,hs.rel.one,fun g c h=>(hs.rel.gt g c h).ext hs.rel hx⟩
  exact ObR.keep hs.rel hx (by rw [← hs.rel.len]; exact (List.getElem?_eq_some_iff.1 hk).1) (hs.rel.ob k o hk) fun hl b hb=>⟨rfl,(hs.rel.live_lt ⟨k,o,hk,hl,hb⟩).2⟩
 have hs1:Sat lo E1 s a:=⟨hR1,hs.defs.ext hs.rel hx,hs.size,fun t=>(hs.rd t).ext hs.rel hx⟩
 refine any_head hT hreg (drawOk_spec hok) (E0:=E) (s0:=s) hb (fun h=>absurd rfl h) (fun h=>absurd rfl h) h1 (fun fuel listed E2 a2 q1 q2 q3 q4 q5 q6=>any_tail hT hreg (drawOk_spec hok) own hb fuel listed m ⟨denv (fun _=>true) 0 (reg.take m) ds s.env,s.om⟩ E2 a2 q1 q2 (zg _) (drawOk_spec hok).le q3 q4 q5 q6 h2) h3 ops.size _ [] E1 a (by simp) closed_none (fun j hj=>by simp at hj) (fun j hj=>by simp at hj) rfl (fun j _ hj=>hrep j hj) ?_ hx ?_
 ·unfold unl
  have:=zf (p:=fun b=>!b) (l:=(za ops.size false).toList)
  simpa using this
 ·have:denv (fun j=>(za ops.size false).getD j true) 0 (reg.take m) ds s.env=denv (fun _=>false) 0 (reg.take m) ds s.env:=denv_congr fun j hj=>by
   rw [ze]
   exact hrep j (by simp at hj; omega)
  rw [this]
  have hnone:∀ (i:Nat) (os:List LOp) (ds e:List D),denv (fun _=>false) i os ds e=e:=by
   intro i os
   induction os generalizing i with
   | nil=>intro ds e; simp [denv]
   | cons o os ih=>
    intro ds e
    cases ds with
    | nil=>simp [denv]
    | cons d ds=>simp only [denv]; rw [ih]; simp
  rw [hnone]
  exact hs1
theorem AW.regionT {base:Nat} (hT:TabOk P T) (hm:P.follows .mixedOrders=true) {id:Nat} {ops:Array Oper} {Q:AX→St→Prop} {s:St} (reg:List LOp) (own:List Nat) (m:Nat) (hreg:ops.toList.map lop=reg) (hok:drawOk ops [] m false=true)
  (h:qops P T reg s.om (reg.take m) s.env fun env=>treeP P T reg own (mkTree ops ops.size (headMask ops.size m)) ⟨env,s.om⟩ (Q .norm) (fun d=>Q (.panic d))):AW base P (.region id ops true) Q s:=by
 intro r lo E a hr hb hs
 obtain ⟨ds,h1,h2,h3⟩:=qops_facts h
 refine wpIn_region_any hm ?_
 have hrep:∀ j,j<ops.size→(za ops.size false).getD j true=false:=by intro j hj; simp [zd,hj]
 let E1:Env:={ E with w:={ E.w with drawn:=E.w.drawn+1 } }
 have hx:Ext E s.om E1 s.om:=⟨zg _,fun _ _=>rfl,fun _ h=>h,zg _,rfl,rfl,rfl,fun _ _ _=>rfl,fun b hl=>.inl hl,fun b hA=>.inl hA⟩
 have hlen:ops.size=reg.length:=by rw [← hreg]; simp
 have hR1:Rel E1 s.om:=by
  refine ⟨hs.rel.len,fun k o hk=>?_,hs.rel.inj,hs.rel.old,hs.rel.one,fun g c h=>(hs.rel.gt g c h).ext hs.rel hx⟩
  exact ObR.keep hs.rel hx (by rw [← hs.rel.len]; exact (List.getElem?_eq_some_iff.1 hk).1) (hs.rel.ob k o hk) fun hl b hb=>⟨rfl,(hs.rel.live_lt ⟨k,o,hk,hl,hb⟩).2⟩
 have hs1:Sat lo E1 s a:=⟨hR1,hs.defs.ext hs.rel hx,hs.size,fun t=>(hs.rd t).ext hs.rel hx⟩
 refine any_head hT hreg (drawOk_spec hok) (E0:=E) (s0:=s) hb (fun h=>absurd rfl h) (fun h=>absurd rfl h) h1 (fun fuel listed E2 a2 q1 q2 q3 q4 q5 q6=>any_tree hT hreg (drawOk_spec hok) own hb ops.size fuel listed ⟨denv (fun _=>true) 0 (reg.take m) ds s.env,s.om⟩ E2 a2 q1 q2 (fun j h1 h2=>(q3 j h2).2 h1) q4 (by
   have:=zf (p:=fun b=>!b) (l:=listed.toList)
   unfold unl
   simp only [Array.length_toList] at this
   omega) q5 q6 (by rw [mask_eq q1 q3]; exact h2)) h3 ops.size _ [] E1 a (by simp) closed_none (fun j hj=>by simp at hj) (fun j hj=>by simp at hj) rfl (fun j _ hj=>hrep j hj) ?_ hx ?_
 ·unfold unl
  have:=zf (p:=fun b=>!b) (l:=(za ops.size false).toList)
  simpa using this
 ·have:denv (fun j=>(za ops.size false).getD j true) 0 (reg.take m) ds s.env=denv (fun _=>false) 0 (reg.take m) ds s.env:=denv_congr fun j hj=>by
   rw [ze]
   exact hrep j (by simp at hj; omega)
  rw [this]
  have hnone:∀ (i:Nat) (os:List LOp) (ds e:List D),denv (fun _=>false) i os ds e=e:=by
   intro i os
   induction os generalizing i with
   | nil=>intro ds e; simp [denv]
   | cons o os ih=>
    intro ds e
    cases ds with
    | nil=>simp [denv]
    | cons d ds=>simp only [denv]; rw [ih]; simp
  rw [hnone]
  exact hs1
def npan (Q:AX→St→Prop):AX→St→Prop
 | .panic d,s=>∀ env,Q (.panic d) ⟨env,s.om⟩
 | x,s=>Q x s
theorem AW.regionP0 {base:Nat} (hT:TabOk P T) (hm:P.follows .mixedOrders=true) {id:Nat} {ops:Array Oper} {Q:AX→St→Prop} {s:St} (reg:List LOp) (own pre:List Nat) (m:Nat) (hreg:ops.toList.map lop=reg) (hok:drawOk ops pre m true=true) (hpo:preOk ops (za ops.size false) pre=true) (hrr:∀ r:Option Nat,(r=none∨noRange (.region id ops true)=true)→pre≠[]→r=none) (hQp:pre≠[]→∀ d s env,Q (.panic d) s→Q (.panic d) ⟨env,s.om⟩)
  (h:qops P T reg s.om (reg.take m) s.env fun env=>aops P T reg own m (reg.drop m) ⟨env,s.om⟩ (Q .norm) (fun d=>Q (.panic d))):AW base P (.region id ops true) Q s:=by
 intro r lo E a hr hb hs
 obtain ⟨ds,h1,h2,h3⟩:=qops_facts h
 refine wpIn_region_any hm ?_
 have hrep:∀ j,j<ops.size→(za ops.size false).getD j true=false:=by intro j hj; simp [zd,hj]
 let E1:Env:={ E with w:={ E.w with drawn:=E.w.drawn+1 } }
 have hx:Ext E s.om E1 s.om:=⟨zg _,fun _ _=>rfl,fun _ h=>h,zg _,rfl,rfl,rfl,fun _ _ _=>rfl,fun b hl=>.inl hl,fun b hA=>.inl hA⟩
 have hlen:ops.size=reg.length:=by rw [← hreg]; simp
 have hR1:Rel E1 s.om:=by
  refine ⟨hs.rel.len,fun k o hk=>?_,hs.rel.inj,hs.rel.old,hs.rel.one,fun g c h=>(hs.rel.gt g c h).ext hs.rel hx⟩
  exact ObR.keep hs.rel hx (by rw [← hs.rel.len]; exact (List.getElem?_eq_some_iff.1 hk).1) (hs.rel.ob k o hk) fun hl b hb=>⟨rfl,(hs.rel.live_lt ⟨k,o,hk,hl,hb⟩).2⟩
 have hs1:Sat lo E1 s a:=⟨hR1,hs.defs.ext hs.rel hx,hs.size,fun t=>(hs.rd t).ext hs.rel hx⟩
 refine any_head hT hreg (drawOk_spec hok) (E0:=E) (s0:=s) hb (hrr r hr.1) hQp h1 (fun fuel listed E2 a2 q1 q2 q3 q4 q5 q6=>any_tail hT hreg (drawOk_spec hok) own hb fuel listed m ⟨denv (fun _=>true) 0 (reg.take m) ds s.env,s.om⟩ E2 a2 q1 q2 (zg _) (drawOk_spec hok).le q3 q4 q5 q6 h2) h3 ops.size _ pre E1 a (by simp) closed_none (fun j hj=>.inr hj) (fun _ h=>h) hpo (fun j _ hj=>hrep j hj) ?_ hx ?_
 ·unfold unl
  have:=zf (p:=fun b=>!b) (l:=(za ops.size false).toList)
  simpa using this
 ·have:denv (fun j=>(za ops.size false).getD j true) 0 (reg.take m) ds s.env=denv (fun _=>false) 0 (reg.take m) ds s.env:=denv_congr fun j hj=>by
   rw [ze]
   exact hrep j (by simp at hj; omega)
  rw [this]
  have hnone:∀ (i:Nat) (os:List LOp) (ds e:List D),denv (fun _=>false) i os ds e=e:=by
   intro i os
   induction os generalizing i with
   | nil=>intro ds e; simp [denv]
   | cons o os ih=>
    intro ds e
    cases ds with
    | nil=>simp [denv]
    | cons d ds=>simp only [denv]; rw [ih]; simp
  rw [hnone]
  exact hs1
theorem AW.regionP {base:Nat} (hT:TabOk P T) (hm:P.follows .mixedOrders=true) {id:Nat} {ops:Array Oper} {Q:AX→St→Prop} {s:St} (reg:List LOp) (own pre:List Nat) (m:Nat) (hreg:ops.toList.map lop=reg) (hok:drawOk ops pre m true=true) (hpo:preOk ops (za ops.size false) pre=true) (hrr:noRange (.region id ops true)=false)
  (h:qops P T reg s.om (reg.take m) s.env fun env=>aops P T reg own m (reg.drop m) ⟨env,s.om⟩ (Q .norm) (fun d s=>∀ env,Q (.panic d) ⟨env,s.om⟩)):AW base P (.region id ops true) Q s:=by
 have:AW base P (.region id ops true) (npan Q) s:=AW.regionP0 hT hm reg own pre m hreg hok hpo (fun r hr _=>hr.elim (fun h=>h) fun h=>by rw [hrr] at h; cases h) (fun _ d s env hq=>hq) h
 refine this.mono fun x s hq=>?_
 cases x
 ·exact hq
 ·exact hq
 ·exact hq
 ·exact hq s.env
end
end Go.Proofs.YtbmedfjmccnclaaGreat.AWP
namespace Go.Proofs.YtbmedfjmccnclaaGreat.AWP
open Go
open _root_.List renaming getElem?_eq_getElem → za, getD_eq_getElem?_getD → zb, getElem?_eq_none → zc, getElem?_take_of_lt → zd, getElem?_cons_zero → zg, range → zj, getElem?_map → zk
open _root_.Bool renaming and_eq_true → ze
open _root_.Nat renaming zero_add → zf, le_refl → zl, le_of_not_lt → zn, le_succ → zp
open _root_.Array renaming getElem?_toList → zh, replicate → zo
open _root_.Option renaming map_eq_some_iff → zm
def ObAll (p:D→Prop):Ob→Prop
 | .var _ c=>∀ d∈c,p d
 | .slc _ _ rows=>∀ r∈rows,∀ d∈r,p d
 | .frz sz rows=>p (.sl sz rows)
 | .frv c=>p (.pel c)
 | .lp _ _ _ _ _ env=>∀ d∈env,p d
 | .mp _=>True
 | .it .. => True
 | .alt _ cs=>∀ c∈cs,∀ d∈c,p d
 | .dead=>True
theorem ObAll.triv {o:Ob}:ObAll (fun _=>True) o:=by cases o <;> simp [ObAll]
theorem CellsR.via {E E':Env} {c:List D} {cs:Array Value} (rd:∀ d∈c,∀ y,Rd E d y→Rd E' d y) (h:CellsR E c cs):CellsR E' c cs:=
 fun j d hj=>let ⟨y,h1,h2,h3⟩:=h j d hj; ⟨y,h1,h2,rd d (List.mem_of_getElem? hj) y h3⟩
theorem ObR.via {E E':Env} {k k':Nat} {o:Ob} {p:D→Prop} (hg:E'.g k'=E.g k) (ha:ObAll p o) (rd:∀ d,p d→∀ y,Rd E d y→Rd E' d y)
  (hw:o.live=true→∀ b,hb (E.g k)=some b→E'.w.heap[b]? = E.w.heap[b]?∧¬ E'.A b) (h:ObR E k o):ObR E' k' o:=by
 cases o with
 | var ty c=>
  obtain ⟨b,cs,h1,h2,h3,h4,h5⟩:=h
  obtain ⟨e1,e2⟩:=hw rfl b (by rw [h1]; rfl)
  exact ⟨b,cs,by rw [hg]; exact h1,by rw [e1]; exact h2,e2,h4,h5.via fun d hd=>rd d (ha d hd)⟩
 | slc ty sz rows=>
  obtain ⟨h0,hs,h | ⟨b,cs,cap,h1,h2,h3,h4,h5,h6,h7⟩⟩:=h
  ·exact ⟨h0,hs,.inl ⟨by rw [hg]; exact h.1,h.2⟩⟩
  ·obtain ⟨e1,e2⟩:=hw rfl b (by rw [h1]; rfl)
   refine ⟨h0,hs,.inr ⟨b,cs,cap,by rw [hg]; exact h1,by rw [e1]; exact h2,e2,h4,h5,h6,h7.via fun d hd=>?_⟩⟩
   obtain ⟨r,hr,hd⟩:=List.mem_flatten.1 hd
   exact rd d (ha r hr d hd)
 | frz sz rows=>exact ⟨by rw [hg]; exact rd _ ha _ h.1,by rw [hg]; exact h.2⟩
 | frv c=>exact ⟨by rw [hg]; exact rd _ ha _ h.1,by rw [hg]; exact h.2⟩
 | lp ps as bo st pe env=>
  obtain ⟨b,r,h1,h2,h3,h4,h5,h6,h7,h8,h9,h10⟩:=h
  obtain ⟨e1,e2⟩:=hw rfl b (by rw [h1]; rfl)
  refine ⟨b,r,by rw [hg]; exact h1,by rw [e1]; exact h2,e2,h4,h5,h6,h7,h8,h9,fun t=>?_⟩
  have:=h10 t
  by_cases ht:t<env.length
  ·have e:env.getD t .any=env[t]:=by simp [zb,ht]
   rw [e] at this ⊢
   exact rd _ (ha _ (List.getElem_mem ht)) _ this
  ·have e:env.getD t .any=.any:=by simp [zb,ht]
   rw [e]; exact .any _
 | mp es=>
  obtain ⟨b,xs,ck,h1,h2,h3,h4⟩:=h
  obtain ⟨e1,e2⟩:=hw rfl b (by rw [h1]; rfl)
  exact ⟨b,xs,ck,by rw [hg]; exact h1,by rw [e1]; exact h2,e2,h4⟩
 | it s pos=>
  obtain ⟨b,h1,h2,h3⟩:=h
  obtain ⟨e1,e2⟩:=hw rfl b (by rw [h1]; rfl)
  exact ⟨b,by rw [hg]; exact h1,by rw [e1]; exact h2,e2⟩
 | alt ty cs=>
  obtain ⟨c,p1,p2,b,a,h1,h2,h3,h4,h5⟩:=h
  obtain ⟨e1,e2⟩:=hw rfl b (by rw [h1]; rfl)
  exact ⟨c,p1,p2,b,a,by rw [hg]; exact h1,by rw [e1]; exact h2,e2,h4,h5.via fun d hd=>rd d (ha c p1 d hd)⟩
 | dead=>trivial
section
variable {P:Program} {T:Tab}
def alOf (o:LOp):Option Nat:=
 match o.op,o.dst,o.guard with
 | .alloc t,some _,none=>some t
 | _,_,_=>none
theorem alOf_some {o:LOp} {t:Nat} (h:alOf o=some t):o.op=.alloc t∧(∃ d,o.dst=some d)∧o.guard=none:=by
 unfold alOf at h
 split at h
 ·rename_i t' d' h1 h2 h3
  cases h
  exact ⟨h1,⟨_,h2⟩,h3⟩
 ·cases h
def stOf (o:LOp):Option (Nat × Nat × Operand):=
 match o.op,o.dst,o.guard with
 | .store t (.tmp u) x,none,none=>some (t,u,x)
 | _,_,_=>none
theorem stOf_some {o:LOp} {t u:Nat} {x:Operand} (h:stOf o=some (t,u,x)):o.op=.store t (.tmp u) x∧o.dst=none∧o.guard=none:=by
 unfold stOf at h
 split at h
 ·rename_i h1 h2 h3
  cases h
  exact ⟨h1,h2,h3⟩
 ·cases h
theorem stOf_al {o:LOp} {t:Nat} (h:alOf o=some t):stOf o=none:=by
 obtain ⟨h1,⟨d,h2⟩,_⟩:=alOf_some h
 unfold stOf
 rw [h1]
def stFit (T:Tab) (t:Nat) (d:D):Prop:=∃ zi c,T t=some zi∧cellsOf d=some c∧c.length=zi.zero.length
def qopsA (P:Program) (T:Tab) (reg:List LOp) (om:List Ob):List LOp→List D→(List D→Prop)→Prop
 | [],env,K=>K env
 | o :: rest,env,K=>
  match alOf o with
  | some t=>(T t).isSome=true∧qopsA P T reg om rest (putE env o.dst .any) K
  | none=>
   match stOf o with
   | some (t,u,x)=>u<env.length∧stFit T t (evD env x)∧qopsA P T reg om rest env K
   | none=>
   match o.guard with
   | none=>aopQ P T o.op (evD env) om fun d=>qopsA P T reg om rest (putE env o.dst d) K
   | some (j,want)=>
    match (reg[j]?).bind (·.dst) with
    | some t=>
     match gB (env.getD t .any) want with
     | some true=>aopQ P T o.op (evD env) om fun d=>qopsA P T reg om rest (putE env o.dst d) K
     | some false=>qopsA P T reg om rest (putE env o.dst (.v undef)) K
     | none=>False
    | none=>False
def contA (env:List D) (dst:Option Nat) (z:List D):List LOp→List D
 | []=>z
 | o :: os=>
  match stOf o with
  | some (_,u,x)=>if dst=some u then (cellsOf (evD env x)).getD [] else contA env dst z os
  | none=>contA env dst z os
def adopt (T:Tab) (full:List LOp) (env0:List D):List LOp→St→St
 | [],s=>s
 | o :: os,s=>
  match alOf o with
  | some t=>
   match T t with
   | some zi=>adopt T full env0 os ⟨putE s.env o.dst (.ref s.om.length 0),s.om++[.var t (contA env0 o.dst (zeroD zi) full)]⟩
   | none=>adopt T full env0 os s
  | none=>adopt T full env0 os s
def StepA (P:Program) (T:Tab) (reg:List LOp) (om:List Ob) (o:LOp) (env:List D) (d:D):Prop:=
 match alOf o with
 | some t=>(T t).isSome=true
 | none=>
  match stOf o with
  | some (t,u,x)=>u<env.length∧stFit T t d∧evD env x=d
  | none=>StepOk P T reg om o env d
theorem denv_shift (L:Nat→Bool):∀ (i:Nat) (os:List LOp) (ds e:List D),denv L (i+1) os ds e=denv (fun j=>L (j+1)) i os ds e:=by
 intro i os
 induction os generalizing i with
 | nil=>intro ds e; simp [denv]
 | cons o os ih=>
  intro ds e
  cases ds with
  | nil=>simp [denv]
  | cons d ds=>simp only [denv]; exact ih (i+1) ds _
theorem denv_none (L:Nat→Bool) (hL:∀ j,L j=false):∀ (i:Nat) (os:List LOp) (ds e:List D),denv L i os ds e=e:=by
 intro i os
 induction os generalizing i with
 | nil=>intro ds e; simp [denv]
 | cons o os ih=>
  intro ds e
  cases ds with
  | nil=>simp [denv]
  | cons d ds=>simp only [denv,hL]; rw [ih]; simp
theorem qopsA_facts {reg:List LOp} {om:List Ob}:∀ {os:List LOp} {env:List D} {K:List D→Prop},qopsA P T reg om os env K →
  ∃ ds:List D,ds.length=os.length∧K (denv (fun _=>true) 0 os ds env)∧(∀ i o d,os[i]? = some o→ds[i]? = some d→StepA P T reg om o (denv (fun j=>decide (j<i)) 0 os ds env) d)∧∀ (i:Nat) (o:LOp) (t:Nat),os[i]? = some o→alOf o=some t→ds[i]? = some D.any:=by
 intro os
 induction os with
 | nil=>intro env K h; exact ⟨[],rfl,by simpa [denv,qopsA] using h,by simp,by simp⟩
 | cons o os ih=>
  intro env K h
  have fin:∀ d,StepA P T reg om o env d→(∀ t,alOf o=some t→d=.any)→qopsA P T reg om os (putE env o.dst d) K→∃ ds:List D,ds.length=(o :: os).length∧K (denv (fun _=>true) 0 (o :: os) ds env)∧(∀ i o1 d1,(o :: os)[i]? = some o1→ds[i]? = some d1→StepA P T reg om o1 (denv (fun j=>decide (j<i)) 0 (o :: os) ds env) d1)∧∀ (i:Nat) (o1:LOp) (t:Nat),(o :: os)[i]? = some o1→alOf o1=some t→ds[i]? = some D.any:=by
   intro d hd hal hq
   obtain ⟨ds,h1,h2,h3,h4⟩:=ih hq
   refine ⟨d :: ds,by simp [h1],?_,fun i o1 d1 ho hd1=>?_,fun i o1 t ho ha=>?_⟩
   ·simp only [denv,if_true]
    rw [denv_shift]
    exact h2
   ·cases i with
    | zero=>
     simp only [zg,Option.some.injEq] at ho hd1
     subst ho hd1
     rw [denv_none _ (fun j=>by simp)]
     exact hd
    | succ i=>
     simp only [List.getElem?_cons_succ] at ho hd1
     have:=h3 i o1 d1 ho hd1
     simp only [denv]
     rw [denv_shift]
     simpa using this
   ·cases i with
    | zero=>
     simp only [zg,Option.some.injEq] at ho ⊢
     subst ho
     exact hal t ha
    | succ i=>
     simp only [List.getElem?_cons_succ] at ho ⊢
     exact h4 i o1 t ho ha
  simp only [qopsA] at h
  split at h
  ·rename_i t ha
   exact fin .any (by unfold StepA; rw [ha]; exact h.1) (fun _ _=>rfl) h.2
  ·rename_i ha
   have noal:∀ d:D,∀ t,alOf o=some t→d=.any:=fun d t h=>by rw [ha] at h; cases h
   split at h
   ·rename_i t u x hst
    refine fin (evD env x) (by unfold StepA; rw [ha]; dsimp only; rw [hst]; exact ⟨h.1,h.2.1,rfl⟩) (noal _) ?_
    rw [(stOf_some hst).2.1]
    exact h.2.2
   rename_i hst
   split at h
   ·rename_i hg
    obtain ⟨d,h1,h2⟩:=aopQ_det h
    exact fin d (by unfold StepA; rw [ha]; dsimp only; rw [hst]; simp only [StepOk,hg]; exact h1) (noal d) h2
   ·rename_i j want hg
    split at h
    ·rename_i t ht
     split at h
     ·rename_i hb
      obtain ⟨d,h1,h2⟩:=aopQ_det h
      exact fin d (by unfold StepA; rw [ha]; dsimp only; rw [hst]; simp only [StepOk,hg]; exact ⟨t,true,ht,hb,.inl ⟨rfl,h1⟩⟩) (noal d) h2
     ·rename_i hb
      exact fin (.v undef) (by unfold StepA; rw [ha]; dsimp only; rw [hst]; unfold StepOk; rw [hg]; exact ⟨t,false,ht,hb,.inr ⟨rfl,rfl⟩⟩) (noal _) h
     ·exact h.elim
    ·exact h.elim
def lookA (ops:Array Oper) (o:Oper):List Nat:=
 match stOf (lop o) with
 | some (_,_,.tmp v)=>[v]
 | some _=>[]
 | none=>looked ops o
def notBox (o:Oper):Bool:=match o.op with | .box .. => false | _=>true
def mk2 (l:List Oper):Bool:=decide (2≤(l.filter fun o=>match o.op with | .makeSlice .. => true | _=>false).length)
def alFree (ops:Array Oper) (m:Nat):Bool:=
 (((zj m).any fun i=>match ops[i]? with | some o=>(alOf (lop o)).isSome | none=>false) && ((zj m).all fun i=>match ops[i]? with | some o=>notBox o | none=>true) && !mk2 ops.toList) && ((zj m).all fun i=>(zj m).all fun j=>
  match ops[i]?,ops[j]? with
  | some oi,some oj=>(alOf (lop oj)).isNone || (lookA ops oi).all fun u=>oj.dst != some u
  | _,_=>true) && ((zj m).all fun i=>
  match ops[i]? with
  | some oi=>match stOf (lop oi) with
   | some (t,u,_)=>((zj m).any fun j=>match ops[j]? with | some oj=>alOf (lop oj) == some t && oj.dst == some u | none=>false) &&
     (zj m).all fun j=>match ops[j]? with
      | some oj=>match stOf (lop oj) with
       | some (_,u',_)=>u' != u || j == i
       | none=>true
      | none=>true
   | none=>true
  | none=>true)
theorem alFree_spec {ops:Array Oper} {m:Nat} (h:alFree ops m=true) {i j:Nat} {oi oj:Oper} {t u:Nat} (hi:i<m) (hj:j<m) (h1:ops[i]? = some oi) (h2:ops[j]? = some oj) (ha:alOf (lop oj)=some t) (hu:u∈lookA ops oi):oj.dst≠some u:=by
 unfold alFree at h
 rw [ze,ze] at h
 have:=List.all_eq_true.1 (List.all_eq_true.1 h.1.2 i (List.mem_range.2 hi)) j (List.mem_range.2 hj)
 simp only [h1,h2,ha,Option.isNone_some,Bool.false_or] at this
 have:=List.all_eq_true.1 this u hu
 simpa using this
theorem alFree_st {ops:Array Oper} {m:Nat} (h:alFree ops m=true) {i:Nat} {oi:Oper} {t u:Nat} {x:Operand} (hi:i<m) (h1:ops[i]? = some oi) (hst:stOf (lop oi)=some (t,u,x)) :
  (∃ j oj,j<m∧ops[j]? = some oj∧alOf (lop oj)=some t∧oj.dst=some u)∧∀ (j:Nat) (oj:Oper) (t':Nat) (x':Operand),j<m→ops[j]? = some oj→stOf (lop oj)=some (t',u,x')→j=i:=by
 unfold alFree at h
 rw [ze,ze] at h
 have h3:=List.all_eq_true.1 h.2 i (List.mem_range.2 hi)
 simp only [h1,hst,ze] at h3
 obtain ⟨h4,h5⟩:=h3
 obtain ⟨j,hj,h6⟩:=List.any_eq_true.1 h4
 refine ⟨?_,fun j oj t' x' hj hoj hs=>?_⟩
 ·have hjm:=List.mem_range.1 hj
  cases hoj:ops[j]? with
  | none=>simp [hoj] at h6
  | some oj=>
   simp only [hoj,ze,beq_iff_eq] at h6
   exact ⟨j,oj,hjm,hoj,h6.1,h6.2⟩
 ·have:=List.all_eq_true.1 h5 j (List.mem_range.2 hj)
  simp only [hoj,hs] at this
  simpa using this
def dsF (os:List LOp) (ds:List D) (b:Nat→Nat):List D:=ds.mapIdx fun i d=>if ((os[i]?).bind alOf).isSome then .v (.pointer (some ⟨b i,0,none⟩)) else d
theorem dsF_len (os:List LOp) (ds:List D) (b:Nat→Nat):(dsF os ds b).length=ds.length:=by simp [dsF]
theorem dsF_al {os:List LOp} {ds:List D} {b:Nat→Nat} {i:Nat} {o:LOp} {t:Nat} (ho:os[i]? = some o) (ha:alOf o=some t) (hl:i<ds.length):(dsF os ds b)[i]? = some (.v (.pointer (some ⟨b i,0,none⟩))):=by
 simp [dsF,ho,ha,hl]
theorem dsF_no {os:List LOp} {ds:List D} {b:Nat→Nat} {i:Nat} {o:LOp} {d:D} (ho:os[i]? = some o) (ha:alOf o=none) (hd:ds[i]? = some d):(dsF os ds b)[i]? = some d:=by
 simp [dsF,ho,ha,hd]
theorem denv_ds {L:Nat→Bool}:∀ {i:Nat} {os:List LOp} {ds ds':List D} {e:List D},ds.length=ds'.length→(∀ j,L (i+j)=true→ds[j]? = ds'[j]?)→denv L i os ds e=denv L i os ds' e
 | i,[],_,_,e,_,_=>by simp [denv]
 | i,_ :: _,[],[],e,_,_=>rfl
 | i,_ :: _,[],_ :: _,e,h,_=>by cases h
 | i,_ :: _,_ :: _,[],e,h,_=>by cases h
 | i,o :: os,d :: ds,d' :: ds',e,h,hd=>by
  simp only [denv]
  rw [denv_ds (ds:=ds) (ds':=ds') (by simpa using h) (fun j hj=>by have:=hd (j+1) (by rw [show i+(j+1)=i+1+j from by omega]; exact hj); simpa using this)]
  cases hL:L i
  ·rfl
  ·have:=hd 0 (by rw [Nat.add_zero]; exact hL)
   simp at this
   rw [this]
theorem denv_at {L:Nat→Bool} {u:Nat}:∀ {i:Nat} {os:List LOp} {ds ds':List D} {e e':List D},ds.length=ds'.length→e.length=e'.length→e.getD u .any=e'.getD u .any→(∀ (j:Nat) (o:LOp),os[j]? = some o→o.dst=some u→ds[j]? = ds'[j]?)→(denv L i os ds e).getD u .any=(denv L i os ds' e').getD u .any
 | i,[],_,_,e,e',_,_,h,_=>by simpa [denv] using h
 | i,_ :: _,[],[],e,e',_,_,h,_=>h
 | i,_ :: _,[],_ :: _,e,e',h,_,_,_=>by cases h
 | i,_ :: _,_ :: _,[],e,e',h,_,_,_=>by cases h
 | i,o :: os,d :: ds,d' :: ds',e,e',h,hl,he,hd=>by
  simp only [denv]
  refine denv_at (by simpa using h) ?_ ?_ fun j o1 h1 h2=>by have:=hd (j+1) o1 (by simpa using h1) h2; simpa using this
  ·cases L i
   ·exact hl
   ·simp only [if_true,putE_length]; exact hl
  ·cases L i
   ·exact he
   ·simp only [if_true]
    by_cases hu:o.dst=some u
    ·have:=hd 0 o rfl hu
     simp at this
     subst this
     rw [hu]
     by_cases hul:u<e.length
     ·rw [putE_getD_eq hul,putE_getD_eq (by omega)]
     ·rw [zb,zb,zc (by rw [putE_length]; omega),zc (by rw [putE_length]; omega)]
    ·rw [putE_getD_ne hu,putE_getD_ne hu]; exact he
theorem alloc_pin {lo:Lo} {E:Env} {s:St} {a:Act} {o:Oper} {t:Nat} {i:TI} {r:Option Nat} {next:Act→World→Prop} {Q:Exit→Act→World→Prop} (hT:TabOk P T) (hs:Sat lo E s a) (hop:o.op=.alloc t) (hi:T t=some i)
  (hn:∀ (E':Env) (a':Act),E'.n=E.n→E'.g=E.g→E'.A=E.A→Ext E s.om E' s.om→Sat lo E' (s.put o.dst (.v (.pointer (some ⟨E.w.heap.size,0,none⟩)))) a'→(∃ cs,E'.w.heap[E.w.heap.size]? = some (.cells cs t (0,0))∧cs.size=(zeroD i).length∧CellsR E' (zeroD i) cs)→E'.w.heap.size=E.w.heap.size+1→next a' E'.w) :
  o.wpIn (fence r) 0 P a E.w next Q:=by
 obtain ⟨z,hz1,hz2,_⟩:=(hT _ _ hi).zeroValue (w:=E.w)
 obtain ⟨h1,h2⟩:=zero_cells (E:=E) (hT _ _ hi) hz2
 let E':Env:=⟨E.n,E.g,E.A,E.w.alloc (.cells z.cells t)⟩
 have hx:Ext E s.om E' s.om:=⟨zl _,fun _ _=>rfl,fun _ h=>h,by simp [E'],rfl,rfl,rfl,fun b hb' _=>heap_alloc_lt _ _ _ hb',fun b hl=>.inl hl,fun b hA=>.inl hA⟩
 have hR:Rel E' s.om:=by
  refine ⟨hs.rel.len,fun k o hk=>?_,hs.rel.inj,fun b hA=>?_,hs.rel.one,fun g c h=>(hs.rel.gt g c h).ext hs.rel hx⟩
  ·refine ObR.keep hs.rel hx (by rw [← hs.rel.len]; exact (List.getElem?_eq_some_iff.1 hk).1) (hs.rel.ob k o hk) fun hl b hb=>?_
   have:=hs.rel.live_lt ⟨k,o,hk,hl,hb⟩
   exact ⟨heap_alloc_lt _ _ _ this.1,this.2⟩
  ·have:=hs.rel.old b hA
   simp [E']; omega
 have hrun:(Instr.alloc t true (.tuple #[])).run P E.w=.ok (.pointer (some ⟨E.w.heap.size,0,none⟩)) (E.w.alloc (.cells z.cells t)):=by
  simp [Instr.alloc,hz1,newVar,newRow]
 have hd:notDefer o:=fun c hc=>by rw [hop] at hc; cases hc
 refine ⟨fun _ _=>trivial,?_⟩
 rw [Oper.semAt_eq _ _ _ hd]
 have ho:execOp a.eval o=(do pure (.value (← Instr.alloc t true (.tuple #[]))):Sem Next):=by simp [execOp,hop]
 rw [ho]
 simp only [Sem.run_bind,hrun,Result.andThen_ok,Sem.run_pure,Oper.uponIn]
 refine hn E' _ rfl rfl rfl hx (hs.put hx hR (.v _) o.dst) ⟨z.cells,heap_alloc_at _ _,h1,h2.ext hs.rel hx⟩ (by simp [E'])
theorem head_core {ops:Array Oper} {reg:List LOp} (hreg:ops.toList.map lop=reg) {pre:List Nat} {m:Nat} {lin:Bool} (hok:DrawOk ops pre m lin) {env0 ds:List D} (hds:ds.length=(reg.take m).length)
  {listed:Array Bool} {i:Nat} {o:Oper} (hsz:listed.size=ops.size) (hi:i∈Region.ready .any ops listed) (ho:ops[i]? = some o) (him:i<m):∃ d,ds[i]? = some d ∧
   (∀ u,u∈looked ops o→(denv (fun j=>decide (j<i)) 0 (reg.take m) ds env0).getD u .any=(denv (fun j=>listed.getD j true) 0 (reg.take m) ds env0).getD u .any) ∧
   putE (denv (fun j=>listed.getD j true) 0 (reg.take m) ds env0) o.dst d=denv (fun j=>(listed.setIfInBounds i true).getD j true) 0 (reg.take m) ds env0:=by
 have hlen:ops.size=reg.length:=by rw [← hreg]; simp
 have hmr:(reg.take m).length=m:=by have:=hok.le; simp; omega
 have hget:∀ (i:Nat) (o:Oper),ops[i]? = some o→i<m→(reg.take m)[i]? = some (lop o):=by
  intro i o ho hi
  rw [zd hi,← hreg]
  simp [ho]
 have hget':∀ (i:Nat) (l:LOp),(reg.take m)[i]? = some l→∃ o,ops[i]? = some o∧l=lop o∧i<m:=by
  intro i l h
  have hi:=(List.getElem?_eq_some_iff.1 h).1
  rw [hmr] at hi
  rw [zd hi,← hreg] at h
  simp only [zk,zm,zh] at h
  obtain ⟨o,ho,rfl⟩:=h
  exact ⟨o,ho,rfl,hi⟩
 have hro:=hget i o ho him
 obtain ⟨d,hd⟩:∃ d,ds[i]? = some d:=⟨ds[i]'(by rw [hds,hmr]; exact him),za (by rw [hds,hmr]; exact him)⟩
 have his:=(Array.getElem?_eq_some_iff.1 ho).1
 have hil:=(mem_ready.1 hi).1
 have hlook:∀ u,u∈looked ops o→(denv (fun j=>decide (j<i)) 0 (reg.take m) ds env0).getD u .any=(denv (fun j=>listed.getD j true) 0 (reg.take m) ds env0).getD u .any:=by
  intro u hu
  by_cases hex:∃ (j:Nat) (l:LOp),(reg.take m)[j]? = some l∧l.dst=some u
  ·obtain ⟨j,l,hj,hl⟩:=hex
   obtain ⟨oj,hoj,rfl,hjm⟩:=hget' j l hj
   obtain ⟨hji,hedge⟩:=hok.look i j o oj u him hjm ho hoj hu hl
   have hlj:=hasEdge_listed ho hi hedge
   rw [← getD_true_of (by have:=hok.le; omega)] at hlj
   obtain ⟨dj,hdj⟩:∃ d,ds[j]? = some d:=⟨ds[j]'(by rw [hds,hmr]; exact hjm),za (by rw [hds,hmr]; exact hjm)⟩
   have huniq:∀ j' o',(reg.take m)[j']? = some o'→o'.dst=some u→j'=j:=by
    intro j' l' hj' hl'
    obtain ⟨oj',hoj',rfl,hjm'⟩:=hget' j' l' hj'
    by_cases e:j'=j
    ·exact e
    ·rcases hok.dst j j' oj oj' hjm hjm' hoj hoj' e with h | h
     ·have:oj'.dst=some u:=hl'
      rw [h] at this; cases this
     ·have h1:oj'.dst=some u:=hl'
      have h2:oj.dst=some u:=hl
      rw [h1,h2] at h
      exact absurd rfl h
   by_cases hul:u<env0.length
   ·rw [denv_new (L:=fun j=>decide (j<i)) hj hdj hl (by simpa using hji) hul huniq,denv_new (L:=fun j=>listed.getD j true) hj hdj hl (by rw [zf]; exact hlj) hul huniq]
   ·have h1:(denv (fun j=>decide (j<i)) 0 (reg.take m) ds env0).length≤u:=by rw [denv_length]; exact zn hul
    have h2:(denv (fun j=>listed.getD j true) 0 (reg.take m) ds env0).length≤u:=by rw [denv_length]; exact zn hul
    rw [zb,zb,zc h1,zc h2]
  ·rw [denv_old (fun j l hj hl=>absurd ⟨j,l,hj,hl⟩ hex),denv_old (fun j l hj hl=>absurd ⟨j,l,hj,hl⟩ hex)]
 have hput:putE (denv (fun j=>listed.getD j true) 0 (reg.take m) ds env0) o.dst d=denv (fun j=>(listed.setIfInBounds i true).getD j true) 0 (reg.take m) ds env0:=by
  apply List.ext_getElem?
  intro u
  have getE:∀ (l:List D),l.length=env0.length→l[u]? = if u<env0.length then some (l.getD u .any) else none:=by
   intro l hl
   split
   ·rename_i h; simp [zb,za (show u<l.length by omega)]
   ·rename_i h; exact zc (by omega)
  rw [getE _ (by rw [putE_length,denv_length]),getE _ (by rw [denv_length])]
  split
  ·rename_i hul
   congr 1
   by_cases hdu:o.dst=some u
   ·have huniq:∀ j' o',(reg.take m)[j']? = some o'→o'.dst=some u→j'=i:=by
     intro j' l' hj' hl'
     obtain ⟨oj',hoj',rfl,hjm'⟩:=hget' j' l' hj'
     by_cases e:j'=i
     ·exact e
     ·rcases hok.dst i j' o oj' him hjm' ho hoj' e with h | h
      ·have:oj'.dst=some u:=hl'
       rw [h] at this; cases this
      ·have h1:oj'.dst=some u:=hl'
       rw [h1,hdu] at h
       exact absurd rfl h
    rw [hdu,putE_getD_eq (by rw [denv_length]; exact hul)]
    rw [denv_new (L:=fun j=>(listed.setIfInBounds i true).getD j true) hro hd (by exact hdu) (by rw [zf,set_getD (by omega),if_pos rfl]) hul huniq]
   ·rw [putE_getD_ne hdu]
    by_cases hex:∃ (j:Nat) (l:LOp),(reg.take m)[j]? = some l∧l.dst=some u
    ·obtain ⟨j,l,hj,hl⟩:=hex
     obtain ⟨oj,hoj,rfl,hjm⟩:=hget' j l hj
     have hji:j≠i:=by
      rintro rfl
      rw [ho] at hoj
      injection hoj with hoj
      subst hoj
      exact hdu hl
     obtain ⟨dj,hdj⟩:∃ d,ds[j]? = some d:=⟨ds[j]'(by rw [hds,hmr]; exact hjm),za (by rw [hds,hmr]; exact hjm)⟩
     have huniq:∀ j' o',(reg.take m)[j']? = some o'→o'.dst=some u→j'=j:=by
      intro j' l' hj' hl'
      obtain ⟨oj',hoj',rfl,hjm'⟩:=hget' j' l' hj'
      by_cases e:j'=j
      ·exact e
      ·rcases hok.dst j j' oj oj' hjm hjm' hoj hoj' e with h | h
       ·have:oj'.dst=some u:=hl'
        rw [h] at this; cases this
       ·have h1:oj'.dst=some u:=hl'
        have h2:oj.dst=some u:=hl
        rw [h1,h2] at h
        exact absurd rfl h
     cases hlj:listed.getD j true with
     | true=>
      rw [denv_new (L:=fun j=>listed.getD j true) hj hdj hl (by rw [zf]; exact hlj) hul huniq,denv_new (L:=fun j=>(listed.setIfInBounds i true).getD j true) hj hdj hl (by rw [zf,set_getD (by omega),if_neg hji]; exact hlj) hul huniq]
     | false=>
      have hno:∀ (L:Nat→Bool),L j=false→∀ j' o',(reg.take m)[j']? = some o'→o'.dst=some u→L (0+j')=false:=by
       intro L hL j' o' h1 h2
       rw [huniq j' o' h1 h2,zf]
       exact hL
      rw [denv_old (hno (fun j=>listed.getD j true) hlj),denv_old (hno (fun j=>(listed.setIfInBounds i true).getD j true) (by rw [set_getD (by omega),if_neg hji]; exact hlj))]
    ·rw [denv_old (fun j l hj hl=>absurd ⟨j,l,hj,hl⟩ hex),denv_old (fun j l hj hl=>absurd ⟨j,l,hj,hl⟩ hex)]
  ·rfl
 exact ⟨d,hd,hlook,hput⟩
structure Blk (T:Tab) (sz0:Nat) (om:List Ob) (E:Env) (t b:Nat) (c:List D):Prop where
 cells:∃ zi cs,T t=some zi∧E.w.heap[b]? = some (.cells cs t (0,0))∧cs.size=c.length∧c.length=zi.zero.length∧CellsR E c cs
 nA:¬ E.A b
 nL:¬ Live E om b
 ge:sz0≤b
theorem Blk.ext {sz0:Nat} {om om':List Ob} {E E':Env} {t b:Nat} {c:List D} (h:Blk T sz0 om E t b c) (hR:Rel E om) (hx:Ext E om E' om'):Blk T sz0 om' E' t b c:=by
 obtain ⟨zi,cs,h1,h2,h3,h5,h4⟩:=h.cells
 have hlt:=(Array.getElem?_eq_some_iff.1 h2).1
 refine ⟨⟨zi,cs,h1,?_,h3,h5,h4.ext hR hx⟩,fun hA=>?_,fun hL=>?_,h.ge⟩
 ·rw [hx.keep b hlt h.nL]; exact h2
 ·rcases hx.newA b hA with h' | h' | h'
  ·exact h.nA h'
  ·exact h.nL h'
  ·have h':E.w.heap.size≤b:=h'
   omega
 ·rcases hx.live b hL with h' | h'
  ·exact h.nL h'
  ·have h':E.w.heap.size≤b:=h'
   omega
def ALC (T:Tab) (os:List LOp) (ds:List D) (c:Nat→List D) (listed:Array Bool):Prop:=
 ∀ i o t,os[i]? = some o→alOf o=some t→listed.getD i true=true →
  (∀ zi,T t=some zi→(∀ k o' t' u x,os[k]? = some o'→stOf o'=some (t',u,x)→o.dst=some u→listed.getD k true=false)→c i=zeroD zi) ∧
  ∀ k o' t' u x d,os[k]? = some o'→stOf o'=some (t',u,x)→o.dst=some u→listed.getD k true=true→ds[k]? = some d→cellsOf d=some (c i)
def AL (T:Tab) (sz0:Nat) (os:List LOp) (ds:List D) (om:List Ob) (b:Nat→Nat) (c:Nat→List D) (listed:Array Bool) (E:Env):Prop:=
 (∀ i o t,os[i]? = some o→alOf o=some t→listed.getD i true=true→Blk T sz0 om E t (b i) (c i)) ∧
 (∀ i i' o o' t t',os[i]? = some o→os[i']? = some o'→alOf o=some t→alOf o'=some t'→listed.getD i true=true→listed.getD i' true=true→b i=b i'→i=i')∧ALC T os ds c listed
theorem store_pin {lo:Lo} {E E0:Env} {om0:List Ob} {s:St} {a:Act} {o:Oper} {t u b sz0:Nat} {x:Operand} {c c0:List D} {d:D} {r:Option Nat} {next:Act→World→Prop} {Q:Exit→Act→World→Prop} (hT:TabOk P T) (hs:Sat lo E s a)
  (hop:o.op=.store t (.tmp u) x) (hdst:o.dst=none) (hB:Blk T sz0 s.om E t b c0) (hx0:Ext E0 om0 E s.om) (hsz0:sz0=E0.w.heap.size) (hp:a.tmps.getD u undef=.pointer (some ⟨b,0,none⟩)) (hd:Rd E d (a.eval x)) (hc:cellsOf d=some c) (hl:∃ zi,T t=some zi∧c.length=zi.zero.length)
  (hn:∀ (E':Env),E'.n=E.n→Ext E0 om0 E' s.om→Sat lo E' s a→Blk T sz0 s.om E' t b c→(∀ t' b' c',b'≠b→Blk T sz0 s.om E t' b' c'→Blk T sz0 s.om E' t' b' c')→next a E'.w) :
  o.wpIn (fence r) 0 P a E.w next Q:=by
 obtain ⟨zi,cs,q1,q2,q3,q5,q4⟩:=hB.cells
 obtain ⟨zi',hz',hlen⟩:=hl
 rw [q1] at hz'
 cases hz'
 have hR:Rel E s.om:=hs.rel
 obtain ⟨k1,k2⟩:=cellsOf_ok hR hc hd
 have hone:∀ v∈(a.eval x).cells.toList,v.oneCell'=true:=by
  intro v hv
  obtain ⟨j,hj⟩:=List.getElem?_of_mem hv
  have hjl:j<c.length:=by
   have:=(List.getElem?_eq_some_iff.1 hj).1
   rw [Array.length_toList] at this
   omega
  obtain ⟨y,e1,e2,_⟩:=k2 j _ (za hjl)
  rw [zh] at hj
  rw [hj] at e1
  cases e1
  exact e2
 have hrun:=run_storeCells_at (P:=P) b 0 t (a.eval x).cells.toList 0 cs E.w q2 (by rw [Array.length_toList]; omega) hone
 have hnew:(cs.toList.take (0+0)++(a.eval x).cells.toList++cs.toList.drop (0+0+(a.eval x).cells.toList.length)).toArray=(a.eval x).cells:=by
  rw [List.drop_of_length_le (by rw [Array.length_toList,Array.length_toList]; omega)]
  simp
 rw [hnew] at hrun
 have hsize:(a.eval x).cells.size=zi.size:=by rw [← (hT _ _ q1).len]; omega
 have hst:(Instr.storeAt t (.pointer (some ⟨b,0,none⟩)) (a.eval x)).run P E.w=.ok () (E.w.setRow b (a.eval x).cells):=by
  simp [Instr.storeAt,Instr.sureAddr,storeVar,(hT _ _ q1).sizeOf,hsize,hrun]
 have other:∀ b1,b1≠b→(E.w.setRow b (a.eval x).cells).heap[b1]? = E.w.heap[b1]?:=fun b1 h=>setRow_other _ _ _ _ h
 let E':Env:=⟨E.n,E.g,E.A,E.w.setRow b (a.eval x).cells⟩
 have hszw:E'.w.heap.size=E.w.heap.size:=by show (E.w.setRow b (a.eval x).cells).heap.size=_; simp [World.setRow]
 have rd:∀ d y,Rd E d y→Rd E' d y:=fun d y h=>Rd.gen (E:=E) (E':=E') (zl _) (fun _ _=>rfl) (fun _ h=>h) (fun ad hA=>World.cell?_of_block (other _ fun e=>hB.nA (e ▸ hA))) h
 have cells:∀ c cs,CellsR E c cs→CellsR E' c cs:=fun c cs h j d hj=>let ⟨y,h1,h2,h3⟩:=h j d hj; ⟨y,h1,h2,rd d y h3⟩
 have hR':Rel E' s.om:=by
  refine ⟨hR.len,fun k o hk=>?_,hR.inj,fun b1 hA=>by rw [hszw]; exact hR.old b1 hA,hR.one,fun g c h=>rd _ _ (hR.gt g c h)⟩
  refine ObR.via (E:=E) (k:=k) rfl ObAll.triv (fun d _ y=>rd d y) (fun hl b1 hb1=>?_) (hR.ob k o hk)
  have hlive:Live E s.om b1:=⟨k,o,hk,hl,hb1⟩
  exact ⟨other b1 fun e=>hB.nL (e ▸ hlive),(hR.live_lt hlive).2⟩
 have hx:Ext E0 om0 E' s.om:=by
  refine ⟨hx0.n,hx0.g,hx0.A,by rw [hszw]; exact hx0.size,hx0.os,hx0.tape,hx0.output,fun b1 hb1 hn1=>?_,hx0.live,hx0.newA⟩
  show (E.w.setRow b (a.eval x).cells).heap[b1]? = _
  rw [other b1 (by have:=hB.ge; omega)]
  exact hx0.keep b1 hb1 hn1
 have hs':Sat lo E' s a:=by
  refine ⟨hR',?_,hs.size,fun t=>rd _ _ (hs.rd t)⟩
  obtain ⟨m1,bs,m2,m3,m4,m5⟩:=hs.defs
  refine ⟨by rw [hszw]; exact m1,bs,m2,m3,fun b1 hb1=>?_,m5⟩
  obtain ⟨n1,n2⟩:=m4 b1 hb1
  refine ⟨n1,?_⟩
  show (E.w.setRow b (a.eval x).cells).heap[b1]? = _
  rw [other b1 (by rintro rfl; rw [q2] at n2; cases n2)]
  exact n2
 have hd':notDefer o:=fun c hc=>by rw [hop] at hc; cases hc
 refine ⟨fun _ _=>trivial,?_⟩
 rw [Oper.semAt_eq _ _ _ hd']
 have hpe:a.eval (.tmp u)=.pointer (some ⟨b,0,none⟩):=hp
 simp only [execOp,hop,hpe,Sem.run_bind,hst,Result.andThen_ok,Sem.run_pure,Oper.uponIn]
 have hput:∀ v,a.put o.dst v=a:=fun v=>by rw [hdst]; rfl
 rw [hput]
 exact hn E' rfl hx hs' ⟨⟨zi,(a.eval x).cells,q1,setRow_heap _ _ _ _ _ _ q2,k1,hlen,cells _ _ k2⟩,hB.nA,hB.nL,hB.ge⟩ fun t' b' c' hne hB'=>by
  obtain ⟨zi2,cs2,r1,r2,r3,r5,r4⟩:=hB'.cells
  exact ⟨⟨zi2,cs2,r1,(other b' hne).trans r2,r3,r5,cells _ _ r4⟩,hB'.nA,hB'.nL,hB'.ge⟩
def hasEdgeL (ops:Array Oper) (k j:Nat):Prop:=∃ o,ops[k]? = some o∧hasEdge o j=true
theorem hasEdgeL.listed {ops:Array Oper} {listed:Array Bool} {k j:Nat} (h:hasEdgeL ops k j) (hc:Closed ops listed) (hk:listed.getD k false=true):listed.getD j false=true:=by
 obtain ⟨o,ho,he⟩:=h
 unfold hasEdge at he
 obtain ⟨e,h1,h2⟩:=Array.any_eq_true'.1 he
 simp only [ze,beq_iff_eq] at h2
 have:=hc k o e ho hk h1 h2.2
 rw [h2.1] at this
 exact this
theorem any_headA {lo:Lo} {r:Option Nat} (hT:TabOk P T) {ops:Array Oper} {reg:List LOp} (hreg:ops.toList.map lop=reg) {m:Nat} (hok:DrawOk ops [] m true) (hal:alFree ops m=true) {Q:Exit→Act→World→Prop} {E0:Env} {s0:St} {ds:List D} (hR0:Rel E0 s0.om)
  (hds:ds.length=(reg.take m).length)
  (hfin:∀ (fuel:Nat) (listed:Array Bool) (E:Env) (a:Act) (b:Nat→Nat) (c:Nat→List D),listed.size=ops.size→Closed ops listed→(∀ j,j<ops.size→(listed.getD j true=true↔j<m))→unl listed≤fuel →
   Ext E0 s0.om E s0.om→Sat lo E ⟨denv (fun _=>true) 0 (reg.take m) (dsF (reg.take m) ds b) s0.env,s0.om⟩ a→AL T E0.w.heap.size (reg.take m) ds s0.om b c listed E→E.n=E0.n→wpAnyIn (fence r) 0 P .any ops Q fuel listed a E.w)
  (hstep:∀ i o d,(reg.take m)[i]? = some o→ds[i]? = some d→StepA P T reg s0.om o (denv (fun j=>decide (j<i)) 0 (reg.take m) ds s0.env) d) :
  ∀ (fuel:Nat) (listed:Array Bool) (E:Env) (a:Act) (b:Nat→Nat) (c:Nat→List D),listed.size=ops.size→Closed ops listed→(∀ j,m≤j→j<ops.size→listed.getD j true=false)→unl listed≤fuel →
   Ext E0 s0.om E s0.om→Sat lo E ⟨denv (fun j=>listed.getD j true) 0 (reg.take m) (dsF (reg.take m) ds b) s0.env,s0.om⟩ a→AL T E0.w.heap.size (reg.take m) ds s0.om b c listed E→E.n=E0.n→wpAnyIn (fence r) 0 P .any ops Q fuel listed a E.w:=by
 have hlen:ops.size=reg.length:=by rw [← hreg]; simp
 have hmr:(reg.take m).length=m:=by have:=hok.le; simp; omega
 have hget:∀ (i:Nat) (o:Oper),ops[i]? = some o→i<m→(reg.take m)[i]? = some (lop o):=by
  intro i o ho hi
  rw [zd hi,← hreg]
  simp [ho]
 have hget':∀ (i:Nat) (l:LOp),(reg.take m)[i]? = some l→∃ o,ops[i]? = some o∧l=lop o∧i<m:=by
  intro i l h
  have hi:=(List.getElem?_eq_some_iff.1 h).1
  rw [hmr] at hi
  rw [zd hi,← hreg] at h
  simp only [zk,zm,zh] at h
  obtain ⟨o,ho,rfl⟩:=h
  exact ⟨o,ho,rfl,hi⟩
 have full:∀ (fuel:Nat) (listed:Array Bool) (E:Env) (a:Act) (b:Nat→Nat) (c:Nat→List D),listed.size=ops.size→Closed ops listed→(∀ j,m≤j→j<ops.size→listed.getD j true=false)→unl listed≤fuel →
   Ext E0 s0.om E s0.om→Sat lo E ⟨denv (fun j=>listed.getD j true) 0 (reg.take m) (dsF (reg.take m) ds b) s0.env,s0.om⟩ a→AL T E0.w.heap.size (reg.take m) ds s0.om b c listed E→E.n=E0.n→(∀ j,j<m→listed.getD j true=true)→wpAnyIn (fence r) 0 P .any ops Q fuel listed a E.w:=by
  intro fuel listed E a b c hsz hcl ht hf hx hs hAL hn hall
  have:denv (fun j=>listed.getD j true) 0 (reg.take m) (dsF (reg.take m) ds b) s0.env=denv (fun _=>true) 0 (reg.take m) (dsF (reg.take m) ds b) s0.env:=denv_congr fun j hj=>by
   rw [zf]
   exact hall j (by omega)
  rw [this] at hs
  refine hfin fuel listed E a b c hsz hcl (fun j hj=>?_) hf hx hs hAL hn
  constructor
  ·intro h
   rcases Nat.lt_or_ge j m with hlt | hge
   ·exact hlt
   ·rw [ht j hge hj] at h; cases h
  ·intro h; exact hall j h
 intro fuel
 induction fuel with
 | zero=>
  intro listed E a b c hsz hcl ht hf hx hs hAL hn
  refine full 0 listed E a b c hsz hcl ht hf hx hs hAL hn fun j hj=>?_
  cases hb:listed.getD j true with
  | true=>rfl
  | false=>have:=unl_set hb; omega
 | succ fuel ih=>
  intro listed E a b c hsz hcl ht hf hx hs hAL hn
  by_cases hall:∀ j,j<m→listed.getD j true=true
  ·exact full (fuel+1) listed E a b c hsz hcl ht hf hx hs hAL hn hall
  refine ⟨fun hr=>?_,fun i hi=>?_⟩
  ·exact absurd (fun j hj=>ready_nil hok.back hsz hr j (by have:=hok.le; omega)) hall
  obtain ⟨hil,o,ho,_⟩:=mem_ready.1 hi
  have his:=(Array.getElem?_eq_some_iff.1 ho).1
  have him:i<m:=by
   rcases Nat.lt_or_ge i m with hlt | hge
   ·exact hlt
   ·exfalso
    apply hall
    intro j hj
    rcases hok.tail i j o hge (by simp; omega) ho with hp | hr
    ·simp at hp
    ·have:=ready_reach hcl hi hr
     rwa [← getD_true_of (by have:=hok.le; omega)] at this
  have hu:=unl_set hil
  have ht':∀ j,m≤j→j<ops.size→(listed.setIfInBounds i true).getD j true=false:=fun j hj1 hj2=>by
   rw [set_getD (by omega),if_neg (by omega)]
   exact ht j hj1 hj2
  have hro:=hget i o ho him
  have hdi:i<ds.length:=by rw [hds,hmr]; exact him
  have hstp:=hstep i (lop o) ds[i] hro (za hdi)
  have setT:∀ j,j≠i→(listed.setIfInBounds i true).getD j true=listed.getD j true:=fun j hj=>by rw [set_getD (by omega),if_neg hj]
  have getF:∀ j,j<ops.size→listed.getD j false=listed.getD j true:=fun j hj=>(getD_true_of (by omega)).symm
  have stDep:∀ (k j:Nat) (ok oj:LOp) (t t' u:Nat) (x:Operand),(reg.take m)[k]? = some ok→stOf ok=some (t',u,x)→(reg.take m)[j]? = some oj→alOf oj=some t→oj.dst=some u→hasEdgeL ops k j:=by
   intro k j ok' oj t t' u x hk hst hj hal hd
   obtain ⟨o1,ho1,rfl,hkm⟩:=hget' k ok' hk
   obtain ⟨o2,ho2,rfl,hjm⟩:=hget' j oj hj
   have hop1:o1.op=.store t' (.tmp u) x:=(stOf_some hst).1
   have hu:u∈looked ops o1:=looked_mem (by rw [hop1]; simp [Op.operands])
   obtain ⟨_,he⟩:=hok.look k j o1 o2 u hkm hjm ho1 ho2 hu hd
   exact ⟨o1,ho1,he⟩
  have noTwo:∀ {j:Nat} {l:LOp} {t t' u:Nat} {x:Operand},alOf l=some t→stOf l=some (t',u,x)→False:=fun h1 h2=>by rw [stOf_al h1] at h2; cases h2
  unfold wpOpIn
  simp only [ho]
  cases hao:alOf (lop o) with
  | some t=>
   obtain ⟨hop,⟨dd,hdst⟩,hg⟩:=alOf_some hao
   have hop:o.op=.alloc t:=hop
   have hg:o.guard=none:=hg
   unfold StepA at hstp
   rw [hao] at hstp
   obtain ⟨zi,hzi⟩:=Option.isSome_iff_exists.1 hstp
   have hw:Region.wanted o (yielded ops a.tmps)=true:=by unfold Region.wanted; rw [hg]
   rw [if_pos hw]
   refine alloc_pin hT hs hop hzi fun E' a' en eg eA hx' hs' hcells hsz'=>?_
   let b':Nat→Nat:=fun j=>if j=i then E.w.heap.size else b j
   have hagree:∀ j,listed.getD j true=true→(dsF (reg.take m) ds b)[j]? = (dsF (reg.take m) ds b')[j]?:=by
    intro j hj
    have hji:j≠i:=by rintro rfl; rw [hil] at hj; cases hj
    simp only [dsF,List.getElem?_mapIdx]
    have:b' j=b j:=if_neg hji
    rw [this]
   have hsame:denv (fun j=>listed.getD j true) 0 (reg.take m) (dsF (reg.take m) ds b) s0.env=denv (fun j=>listed.getD j true) 0 (reg.take m) (dsF (reg.take m) ds b') s0.env:=
    denv_ds (by rw [dsF_len,dsF_len]) fun j hj=>by rw [zf] at hj; exact hagree j hj
   obtain ⟨d,hd,_,hput⟩:=head_core (env0:=s0.env) (ds:=dsF (reg.take m) ds b') hreg hok (by rw [dsF_len]; exact hds) hsz hi ho him
   have hdd:d=.v (.pointer (some ⟨E.w.heap.size,0,none⟩)):=by
    have:=dsF_al (b:=b') hro hao hdi
    rw [hd] at this
    have e:b' i=E.w.heap.size:=if_pos rfl
    rw [e] at this
    cases this; rfl
   subst hdd
   rw [hsame,put_eq,hput] at hs'
   let c':Nat→List D:=fun j=>if j=i then zeroD zi else c j
   refine ih _ E' a' b' c' (by simp [hsz]) (closed_set hcl hi) ht' (by omega) (hx.trans hx') hs' ?_ (by rw [en,hn])
   have hnew:Blk T E0.w.heap.size s0.om E' t E.w.heap.size (zeroD zi):=by
    obtain ⟨cs,c1,c2,c3⟩:=hcells
    refine ⟨⟨zi,cs,hzi,c1,c2,by simp [zeroD],c3⟩,fun hA=>?_,fun hL=>?_,hx.size⟩
    ·rw [eA] at hA
     have:=hs.rel.old _ hA
     omega
    ·rcases hx'.live _ hL with hl | hl
     ·have:=(hs.rel.live_lt hl).1; omega
     ·obtain ⟨k,o1,q1,q2,q3⟩:=hL
      rw [eg] at q3
      have:=(hs.rel.live_lt ⟨k,o1,q1,q2,q3⟩).1
      omega
   have hold:∀ j o1 t1,(reg.take m)[j]? = some o1→alOf o1=some t1→j≠i→listed.getD j true=true→b j<E.w.heap.size:=by
    intro j o1 t1 h1 h2 h3 h4
    obtain ⟨_,cs,_,q,_⟩:=(hAL.1 j o1 t1 h1 h2 h4).cells
    exact (Array.getElem?_eq_some_iff.1 q).1
   refine ⟨fun j o1 t1 h1 h2 h3=>?_,fun j j' o1 o2 t1 t2 h1 h1' h2 h2' h3 h3' he=>?_,fun j o1 t1 h1 h2 h3=>?_⟩
   ·by_cases hji:j=i
    ·subst hji
     rw [hro] at h1
     cases h1
     rw [hao] at h2
     cases h2
     show Blk T _ _ E' t (b' j) (c' j)
     have e:b' j=E.w.heap.size:=if_pos rfl
     have e2:c' j=zeroD zi:=if_pos rfl
     rw [e,e2]; exact hnew
    ·rw [setT j hji] at h3
     have e:b' j=b j:=if_neg hji
     have e2:c' j=c j:=if_neg hji
     rw [e,e2]
     exact (hAL.1 j o1 t1 h1 h2 h3).ext hs.rel hx'
   ·by_cases hji:j=i
    ·by_cases hji':j'=i
     ·rw [hji,hji']
     ·rw [setT j' hji'] at h3'
      have e1:b' j=E.w.heap.size:=if_pos hji
      have e2:b' j'=b j':=if_neg hji'
      have:=hold j' o2 t2 h1' h2' hji' h3'
      omega
    ·rw [setT j hji] at h3
     have e1:b' j=b j:=if_neg hji
     by_cases hji':j'=i
     ·have e2:b' j'=E.w.heap.size:=if_pos hji'
      have:=hold j o1 t1 h1 h2 hji h3
      omega
     ·rw [setT j' hji'] at h3'
      have e2:b' j'=b j':=if_neg hji'
      exact hAL.2.1 j j' o1 o2 t1 t2 h1 h1' h2 h2' h3 h3' (by omega)
   ·have stk:∀ k o' t' u x,(reg.take m)[k]? = some o'→stOf o'=some (t',u,x)→(listed.setIfInBounds i true).getD k true=listed.getD k true:=by
     intro k o' t' u x hk hst
     refine setT k ?_
     rintro rfl
     rw [hro] at hk
     cases hk
     exact noTwo (j:=0) hao hst
    by_cases hji:j=i
    ·subst hji
     rw [hro] at h1
     cases h1
     rw [hao] at h2
     cases h2
     have e2:c' j=zeroD zi:=if_pos rfl
     refine ⟨fun zi' hz' _=>by rw [hzi] at hz'; cases hz'; exact e2,fun k o' t' u x d hk hst hu hl _=>?_⟩
     rw [stk k o' t' u x hk hst] at hl
     have hed:=stDep k j o' (lop o) t t' u x hk hst hro hao hu
     obtain ⟨_,_,_,hkm⟩:=hget' k o' hk
     have hks:k<ops.size:=by have:=hok.le; omega
     have:=hed.listed hcl (by rw [getF k hks]; exact hl)
     rw [getF j his,hil] at this
     cases this
    ·rw [setT j hji] at h3
     have e2:c' j=c j:=if_neg hji
     rw [e2]
     obtain ⟨g1,g2⟩:=hAL.2.2 j o1 t1 h1 h2 h3
     refine ⟨fun zi' hz' hno=>g1 zi' hz' fun k o' t' u x hk hst hu=>?_,fun k o' t' u x d hk hst hu hl hd=>?_⟩
     ·have:=hno k o' t' u x hk hst hu
      rwa [stk k o' t' u x hk hst] at this
     ·rw [stk k o' t' u x hk hst] at hl
      exact g2 k o' t' u x d hk hst hu hl hd
  | none=>
   cases hst:stOf (lop o) with
   | some tux=>
    obtain ⟨t,u,x⟩:=tux
    unfold StepA at hstp
    rw [hao] at hstp
    dsimp only at hstp
    rw [hst] at hstp
    obtain ⟨hul,⟨zi,cx,hzi,hcx,hcl'⟩,hev0⟩:=hstp
    rw [denv_length] at hul
    obtain ⟨hop,hdst,hg⟩:=stOf_some hst
    have hop:o.op=.store t (.tmp u) x:=hop
    have hdst:o.dst=none:=hdst
    have hg:o.guard=none:=hg
    obtain ⟨⟨j,oj,hjm,hoj,haj,hdj⟩,huniq⟩:=alFree_st hal him ho hst
    have hjr:=hget j oj hoj hjm
    have hjs:j<ops.size:=(Array.getElem?_eq_some_iff.1 hoj).1
    have hed:=stDep i j (lop o) (lop oj) t t u x hro hst hjr haj hdj
    obtain ⟨o1,ho1,hed1⟩:=hed
    have hlj:listed.getD j true=true:=by
     rw [ho] at ho1
     cases ho1
     rw [← getF j hjs]
     exact hasEdge_listed ho hi hed1
    obtain ⟨d,hd,hlook,hput⟩:=head_core (env0:=s0.env) (ds:=dsF (reg.take m) ds b) hreg hok (by rw [dsF_len]; exact hds) hsz hi ho him
    have hdd:d=ds[i]:=by
     have:=dsF_no (b:=b) hro hao (za hdi)
     rw [hd] at this
     cases this; rfl
    subst hdd
    have hjd:j<ds.length:=by rw [hds,hmr]; exact hjm
    have hptr:a.tmps.getD u undef=.pointer (some ⟨b j,0,none⟩):=by
     have hr:=hs.rd u
     have hnew:=denv_new (L:=fun j=>listed.getD j true) (i:=0) (e:=s0.env) hjr (dsF_al (b:=b) hjr haj hjd) hdj (by rw [zf]; exact hlj) hul (fun j' o' hj' ho'=>by
      obtain ⟨oj',hoj',rfl,hjm'⟩:=hget' j' o' hj'
      by_cases e:j'=j
      ·exact e
      ·rcases hok.dst j j' oj oj' hjm hjm' hoj hoj' e with h | h
       ·have:oj'.dst=some u:=ho'
        rw [h] at this; cases this
       ·have h1:oj'.dst=some u:=ho'
        rw [h1,hdj] at h
        exact absurd rfl h)
     have hr:Rd E ((denv (fun j=>listed.getD j true) 0 (reg.take m) (dsF (reg.take m) ds b) s0.env).getD u .any) (a.tmps.getD u undef):=hr
     rw [hnew] at hr
     exact hr.v_inv
    have hdx:Rd E ds[i] (a.eval x):=by
     have hx1:=hs.ev x
     have e:evD (denv (fun j=>decide (j<i)) 0 (reg.take m) ds s0.env) x=evD (denv (fun j=>listed.getD j true) 0 (reg.take m) (dsF (reg.take m) ds b) s0.env) x:=by
      cases x with
      | tmp v=>
       have hvA:v∈lookA ops o:=by unfold lookA; rw [hst]; simp
       have hvl:v∈looked ops o:=looked_mem (by rw [hop]; simp [Op.operands])
       have h1:(denv (fun j=>decide (j<i)) 0 (reg.take m) ds s0.env).getD v .any=(denv (fun j=>decide (j<i)) 0 (reg.take m) (dsF (reg.take m) ds b) s0.env).getD v .any:=by
        refine denv_at (by rw [dsF_len]) rfl rfl fun j2 l hj2 hl2=>?_
        obtain ⟨oj2,hoj2,rfl,hjm2⟩:=hget' j2 l hj2
        cases haj2:alOf (lop oj2) with
        | some t2=>exact absurd hl2 (alFree_spec hal him hjm2 ho hoj2 haj2 hvA)
        | none=>exact (dsF_no (b:=b) hj2 haj2 (za (show j2<ds.length by rw [hds,hmr]; exact hjm2))).symm ▸ za (show j2<ds.length by rw [hds,hmr]; exact hjm2)
       exact h1.trans (hlook v hvl)
      | _=>rfl
     rw [← hev0,e]
     exact hx1
    have hw:Region.wanted o (yielded ops a.tmps)=true:=by unfold Region.wanted; rw [hg]
    rw [if_pos hw]
    refine store_pin hT hs hop hdst (hAL.1 j (lop oj) t hjr haj hlj) hx rfl hptr hdx hcx ⟨zi,hzi,hcl'⟩ fun E' en hx' hs' hBj hBo=>?_
    let c':Nat→List D:=fun n=>if n=j then cx else c n
    have hput':denv (fun j=>listed.getD j true) 0 (reg.take m) (dsF (reg.take m) ds b) s0.env=denv (fun j=>(listed.setIfInBounds i true).getD j true) 0 (reg.take m) (dsF (reg.take m) ds b) s0.env:=by
     rw [← hput,hdst]; rfl
    rw [hput'] at hs'
    have noi:∀ j o1 t1,(reg.take m)[j]? = some o1→alOf o1=some t1→j≠i:=by
     rintro j o1 t1 h1 h2 rfl
     rw [hro] at h1
     cases h1
     rw [hao] at h2; cases h2
    refine ih _ E' a b c' (by simp [hsz]) (closed_set hcl hi) ht' (by omega) hx' hs' ?_ (by rw [en,hn])
    refine ⟨fun j1 o1 t1 h1 h2 h3=>?_,fun j1 j' o1 o2 t1 t2 h1 h1' h2 h2' h3 h3' he=>?_,fun j1 o1 t1 h1 h2 h3=>?_⟩
    ·rw [setT j1 (noi j1 o1 t1 h1 h2)] at h3
     by_cases hjj:j1=j
     ·subst hjj
      rw [hjr] at h1
      cases h1
      rw [haj] at h2
      cases h2
      have e2:c' j1=cx:=if_pos rfl
      rw [e2]; exact hBj
     ·have e2:c' j1=c j1:=if_neg hjj
      rw [e2]
      exact hBo t1 (b j1) (c j1) (fun e=>hjj (hAL.2.1 j1 j o1 (lop oj) t1 t h1 hjr h2 haj h3 hlj e)) (hAL.1 j1 o1 t1 h1 h2 h3)
    ·rw [setT j1 (noi j1 o1 t1 h1 h2)] at h3
     rw [setT j' (noi j' o2 t2 h1' h2')] at h3'
     exact hAL.2.1 j1 j' o1 o2 t1 t2 h1 h1' h2 h2' h3 h3' he
    ·rw [setT j1 (noi j1 o1 t1 h1 h2)] at h3
     obtain ⟨g1,g2⟩:=hAL.2.2 j1 o1 t1 h1 h2 h3
     by_cases hjj:j1=j
     ·subst hjj
      rw [hjr] at h1
      cases h1
      have e2:c' j1=cx:=if_pos rfl
      rw [e2]
      refine ⟨fun zi' hz' hno=>?_,fun k o' t' u' x' d' hk hst' hu' hl hd'=>?_⟩
      ·have:=hno i (lop o) t u x hro hst hdj
       rw [set_getD (by omega),if_pos rfl] at this
       cases this
      ·have hu2:oj.dst=some u':=hu'
       rw [hdj] at hu2
       cases hu2
       obtain ⟨o3,ho3,rfl,hkm⟩:=hget' k o' hk
       obtain rfl:=huniq k o3 t' x' hkm ho3 hst'
       rw [za hdi] at hd'
       cases hd'
       exact hcx
     ·have e2:c' j1=c j1:=if_neg hjj
      rw [e2]
      have nst:∀ k o' t' u' x',(reg.take m)[k]? = some o'→stOf o'=some (t',u',x')→o1.dst=some u'→k≠i:=by
       rintro k o' t' u' x' hk hst' hu' rfl
       rw [hro] at hk
       cases hk
       rw [hst] at hst'
       cases hst'
       obtain ⟨oo,hoo,rfl,hom⟩:=hget' j1 o1 h1
       rcases hok.dst j j1 oj oo hjm hom hoj hoo hjj with h | h
       ·have:oo.dst=some u:=hu'
        rw [h] at this; cases this
       ·have h9:oo.dst=some u:=hu'
        rw [h9,hdj] at h
        exact absurd rfl h
      refine ⟨fun zi' hz' hno=>g1 zi' hz' fun k o' t' u' x' hk hst' hu'=>?_,fun k o' t' u' x' d' hk hst' hu' hl hd'=>?_⟩
      ·have:=hno k o' t' u' x' hk hst' hu'
       rwa [setT k (nst k o' t' u' x' hk hst' hu')] at this
      ·rw [setT k (nst k o' t' u' x' hk hst' hu')] at hl
       exact g2 k o' t' u' x' d' hk hst' hu' hl hd'
   | none=>
   unfold StepA at hstp
   rw [hao] at hstp
   dsimp only at hstp
   rw [hst] at hstp
   have hstp:StepOk P T reg s0.om (lop o) (denv (fun j=>decide (j<i)) 0 (reg.take m) ds s0.env) ds[i]:=hstp
   obtain ⟨d,hd,hlook,hput⟩:=head_core (env0:=s0.env) (ds:=dsF (reg.take m) ds b) hreg hok (by rw [dsF_len]; exact hds) hsz hi ho him
   have hdd:d=ds[i]:=by
    have:=dsF_no (b:=b) hro hao (za hdi)
    rw [hd] at this
    cases this; rfl
   subst hdd
   have hlA:lookA ops o=looked ops o:=by unfold lookA; rw [hst]
   have hpin:∀ u,u∈looked ops o→(denv (fun j=>decide (j<i)) 0 (reg.take m) ds s0.env).getD u .any=(denv (fun j=>decide (j<i)) 0 (reg.take m) (dsF (reg.take m) ds b) s0.env).getD u .any:=by
    intro u hu
    refine denv_at (by rw [dsF_len]) rfl rfl fun j l hj hl=>?_
    obtain ⟨oj,hoj,rfl,hjm⟩:=hget' j l hj
    cases haj:alOf (lop oj) with
    | some t=>exact absurd hl (alFree_spec hal him hjm ho hoj haj (by rw [hlA]; exact hu))
    | none=>exact (dsF_no (b:=b) hj haj (za (show j<ds.length by rw [hds,hmr]; exact hjm))).symm ▸ za (show j<ds.length by rw [hds,hmr]; exact hjm)
   have hev:∀ x∈o.op.operands.toList,evD (denv (fun j=>decide (j<i)) 0 (reg.take m) ds s0.env) x=evD (denv (fun j=>listed.getD j true) 0 (reg.take m) (dsF (reg.take m) ds b) s0.env) x:=by
    intro x hx'
    cases x with
    | tmp t=>exact (hpin t (looked_mem hx')).trans (hlook t (looked_mem hx'))
    | _=>rfl
   have next:∀ (E':Env) (a':Act),Ext E s0.om E' s0.om→Sat lo E' (St.put ⟨denv (fun j=>listed.getD j true) 0 (reg.take m) (dsF (reg.take m) ds b) s0.env,s0.om⟩ o.dst ds[i]) a'→wpAnyIn (fence r) 0 P .any ops Q fuel (listed.setIfInBounds i true) a' E'.w:=by
    intro E' a' hx' hs'
    have hn':E'.n=E0.n:=by
     have h1:=hs'.rel.len
     have h2:=hs.rel.len
     have e:(St.put ⟨denv (fun j=>listed.getD j true) 0 (reg.take m) (dsF (reg.take m) ds b) s0.env,s0.om⟩ o.dst ds[i]).om=s0.om:=by cases o.dst <;> rfl
     rw [e] at h1
     have h2:s0.om.length=E.n:=h2
     omega
    rw [put_eq,hput] at hs'
    refine ih _ E' a' b c (by simp [hsz]) (closed_set hcl hi) ht' (by omega) (hx.trans hx') hs' ?_ hn'
    have noi:∀ j o1 t1,(reg.take m)[j]? = some o1→alOf o1=some t1→j≠i:=by
     rintro j o1 t1 h1 h2 rfl
     rw [hro] at h1
     cases h1
     rw [hao] at h2; cases h2
    have nst:∀ k o' t' u' x',(reg.take m)[k]? = some o'→stOf o'=some (t',u',x')→k≠i:=by
     rintro k o' t' u' x' hk hst' rfl
     rw [hro] at hk
     cases hk
     rw [hst] at hst'; cases hst'
    refine ⟨fun j o1 t1 h1 h2 h3=>?_,fun j j' o1 o2 t1 t2 h1 h1' h2 h2' h3 h3' he=>?_,fun j o1 t1 h1 h2 h3=>?_⟩
    ·rw [setT j (noi j o1 t1 h1 h2)] at h3
     exact (hAL.1 j o1 t1 h1 h2 h3).ext hs.rel hx'
    ·rw [setT j (noi j o1 t1 h1 h2)] at h3
     rw [setT j' (noi j' o2 t2 h1' h2')] at h3'
     exact hAL.2.1 j j' o1 o2 t1 t2 h1 h1' h2 h2' h3 h3' he
    ·rw [setT j (noi j o1 t1 h1 h2)] at h3
     obtain ⟨g1,g2⟩:=hAL.2.2 j o1 t1 h1 h2 h3
     refine ⟨fun zi' hz' hno=>g1 zi' hz' fun k o' t' u' x' hk hst' hu'=>?_,fun k o' t' u' x' d' hk hst' hu' hl hd'=>?_⟩
     ·have:=hno k o' t' u' x' hk hst' hu'
      rwa [setT k (nst k o' t' u' x' hk hst')] at this
     ·rw [setT k (nst k o' t' u' x' hk hst')] at hl
      exact g2 k o' t' u' x' d' hk hst' hu' hl hd'
   have run:aopQ P T o.op (evD (denv (fun j=>decide (j<i)) 0 (reg.take m) ds s0.env)) s0.om (· = ds[i]) →
     o.wpIn (fence r) 0 P a E.w (wpAnyIn (fence r) 0 P .any ops Q fuel (listed.setIfInBounds i true)) Q:=by
    intro h
    have h':=aopQ_congr hev h
    have h'':=aopQ_aop (s:=⟨denv (fun j=>listed.getD j true) 0 (reg.take m) (dsF (reg.take m) ds b) s0.env,s0.om⟩) (dst:=o.dst) (KP:=fun _ _=>False) h'
    refine aop_ok hT false hs h'' r (aop_notDefer h'') (fun E' s' a' hk hx' hs'=>?_) (fun E' s' y d hk _ _ _=>hk.elim)
    subst hk
    refine next E' a' ?_ hs'
    cases hdst:o.dst <;> (rw [hdst] at hx'; exact hx')
   unfold StepOk at hstp
   split at hstp
   ·rename_i hg
    have:Region.wanted o (yielded ops a.tmps)=true:=by
     unfold Region.wanted
     have hg:o.guard=none:=hg
     rw [hg]
    rw [if_pos this]
    exact run hstp
   ·rename_i j want hg
    have hg:o.guard=some (j,want):=hg
    obtain ⟨t,b1,ht2,hb,hcase⟩:=hstp
    have htl:t∈looked ops o:=by
     refine List.mem_append_right _ ?_
     have hd':(ops[j]?).bind (·.dst)=some t:=by
      rw [← hreg] at ht2
      simp only [zk] at ht2
      cases hoj:ops[j]? with
      | none=>simp [hoj] at ht2
      | some oj=>simpa [hoj,lop] using ht2
     rw [hg]
     simp [hd']
    rw [hpin t htl,hlook t htl] at hb
    have hw:=wanted_ok hreg hs hg ht2 hb
    rcases hcase with ⟨hbw,h⟩ | ⟨hbw,hdu⟩
    ·rw [if_pos (by rw [hw]; exact hbw)]
     exact run h
    ·rw [if_neg (by rw [hw]; simp [hbw])]
     refine ⟨fun _ _=>trivial,next E _ (Ext.refl _ _) ?_⟩
     rw [hdu]
     exact hs.put (Ext.refl E s0.om) hs.rel (.v undef) _
theorem adopt1 {lo:Lo} {E0 E:Env} {om0 om:List Ob} {env:List D} {a:Act} {t b sz0 u:Nat} {c0:List D} (hs:Sat lo E ⟨env,om⟩ a) (hx0:Ext E0 om0 E om) (hsz0:sz0=E0.w.heap.size) (hB:Blk T sz0 om E t b c0) (hP:u<env.length→a.tmps.getD u undef=.pointer (some ⟨b,0,none⟩)) :
  ∃ E':Env,E'.w=E.w∧Ext E0 om0 E' (om++[.var t c0])∧Sat lo E' ⟨putE env (some u) (.ref om.length 0),om++[.var t c0]⟩ a ∧
   ∀ t' b' c',b'≠b→Blk T sz0 om E t' b' c'→Blk T sz0 (om++[.var t c0]) E' t' b' c':=by
 let E':Env:=⟨E.n+1,fun k=>if k=E.n then .pointer (some ⟨b,0,none⟩) else E.g k,E.A,E.w⟩
 have hR:=hs.rel
 have hR:Rel E om:=hR
 have hlen:om.length=E.n:=hR.len
 have hg:∀ k,k<E.n→E'.g k=E.g k:=fun k hk=>if_neg (by omega)
 have hgn:E'.g E.n=.pointer (some ⟨b,0,none⟩):=if_pos rfl
 have rd:∀ d y,Rd E d y→Rd E' d y:=fun d y h=>Rd.gen (E:=E) (E':=E') (zp _) hg (fun _ h=>h) (fun _ _=>rfl) h
 have cells:∀ c cs,CellsR E c cs→CellsR E' c cs:=fun c cs h j d hj=>let ⟨y,h1,h2,h3⟩:=h j d hj; ⟨y,h1,h2,rd d y h3⟩
 have liveOld:∀ b1,Live E' om b1→Live E om b1:=by
  rintro b1 ⟨k,o,h1,h2,h3⟩
  rw [hg k (by have:=(List.getElem?_eq_some_iff.1 h1).1; omega)] at h3
  exact ⟨k,o,h1,h2,h3⟩
 have hx:Ext E om E' om:=⟨zp _,hg,fun _ h=>h,zl _,rfl,rfl,rfl,fun _ _ _=>rfl,fun b1 h=>.inl (liveOld b1 h),fun _ h=>.inl h⟩
 obtain ⟨zi,cs,q1,q2,q3,q5,q4⟩:=hB.cells
 have get2:∀ {k:Nat} {o:Ob},(om++[Ob.var t c0])[k]? = some o→(k<E.n∧om[k]? = some o)∨(k=E.n∧o=.var t c0):=by
  intro k o h
  rw [List.getElem?_append] at h
  split at h
  ·exact .inl ⟨by omega,h⟩
  ·have hk:=(List.getElem?_eq_some_iff.1 h).1
   simp at hk
   have hk0:k=om.length:=by omega
   subst hk0
   simp at h
   exact .inr ⟨hlen,h.symm⟩
 have hbE:hb (E'.g E.n)=some b:=by rw [hgn]; rfl
 have hR':Rel E' (om++[.var t c0]):=by
  refine ⟨by simp [E',hlen],fun k o hk=>?_,fun k k' o o' b1 h1 h2 h3 h4 h5 h6=>?_,hR.old,fun k hk=>?_,fun g c h=>rd _ _ (hR.gt g c h)⟩
  ·rcases get2 hk with ⟨hk',ho⟩ | ⟨rfl,rfl⟩
   ·exact ObR.keep hR hx hk' (hR.ob k o ho) fun hl b1 hb1=>⟨rfl,(hR.live_lt ⟨k,o,ho,hl,hb1⟩).2⟩
   ·exact ⟨b,cs,hgn,q2,hB.nA,q3,cells _ _ q4⟩
  ·rcases get2 h1 with ⟨hk,ho⟩ | ⟨rfl,rfl⟩ <;> rcases get2 h2 with ⟨hk',ho'⟩ | ⟨rfl,rfl⟩
   ·rw [hg k hk] at h5
    rw [hg k' hk'] at h6
    exact hR.inj k k' o o' b1 ho ho' h3 h4 h5 h6
   ·rw [hbE] at h6
    cases h6
    rw [hg k hk] at h5
    exact absurd ⟨k,o,ho,h3,h5⟩ hB.nL
   ·rw [hbE] at h5
    cases h5
    rw [hg k' hk'] at h6
    exact absurd ⟨k',o',ho',h4,h6⟩ hB.nL
   ·rfl
  ·have hk:k<E.n+1:=hk
   by_cases e:k=E.n
   ·subst e; rw [hgn]; rfl
   ·rw [hg k (by omega)]; exact hR.one k (by omega)
 have hlive:∀ b1,Live E' (om++[.var t c0]) b1→Live E om b1∨b1=b:=by
  rintro b1 ⟨k,o,h1,h2,h3⟩
  rcases get2 h1 with ⟨hk,ho⟩ | ⟨rfl,rfl⟩
  ·rw [hg k hk] at h3
   exact .inl ⟨k,o,ho,h2,h3⟩
  ·rw [hbE] at h3
   cases h3
   exact .inr rfl
 refine ⟨E',rfl,?_,⟨hR',hs.defs.ext hR hx,by rw [putE_length]; exact hs.size,fun u'=>?_⟩,fun t' b' c' hne hB'=>?_⟩
 ·refine ⟨Nat.le_trans hx0.n (zp _),fun k hk=>?_,hx0.A,hx0.size,hx0.os,hx0.tape,hx0.output,hx0.keep,fun b1 h=>?_,hx0.newA⟩
  ·rw [hg k (Nat.lt_of_lt_of_le hk hx0.n)]; exact hx0.g k hk
  ·rcases hlive b1 h with h | rfl
   ·exact hx0.live b1 h
   ·exact .inr (hsz0 ▸ hB.ge)
 ·by_cases e:u'=u
  ·subst e
   by_cases hul:u'<env.length
   ·show Rd E' ((putE env (some u') (.ref om.length 0)).getD u' .any) _
    rw [putE_getD_eq hul,hP hul]
    exact .ref (by show om.length<E.n+1; omega) (by rw [hlen]; exact hbE)
   ·show Rd E' ((putE env (some u') (.ref om.length 0)).getD u' .any) _
    have:(putE env (some u') (.ref om.length 0)).getD u' .any=D.any:=by
     rw [zb,zc (by rw [putE_length]; omega)]; rfl
    rw [this]; exact .any _
  ·show Rd E' ((putE env (some u) (.ref om.length 0)).getD u' .any) _
   rw [putE_getD_ne (by intro h; cases h; exact e rfl)]
   exact rd _ _ (hs.rd u')
 ·obtain ⟨zi2,cs2,r1,r2,r3,r5,r4⟩:=hB'.cells
  refine ⟨⟨zi2,cs2,r1,r2,r3,r5,cells _ _ r4⟩,hB'.nA,fun hL=>?_,hB'.ge⟩
  rcases hlive b' hL with h | h
  ·exact hB'.nL h
  ·exact hne h
theorem adopt_ok {lo:Lo} {E0:Env} {om0:List Ob} {a:Act} {sz0:Nat} (hsz0:sz0=E0.w.heap.size) (full:List LOp) (env0:List D):∀ (os:List LOp) (b:Nat→Nat) (c:Nat→List D) (E:Env) (env:List D) (om:List Ob),Sat lo E ⟨env,om⟩ a→Ext E0 om0 E om →
  (∀ i o t,os[i]? = some o→alOf o=some t→Blk T sz0 om E t (b i) (c i))→(∀ i i' o o' t t',os[i]? = some o→os[i']? = some o'→alOf o=some t→alOf o'=some t'→b i=b i'→i=i') →
  (∀ i o t zi,os[i]? = some o→alOf o=some t→T t=some zi→contA env0 o.dst (zeroD zi) full=c i) →
  (∀ i o t u,os[i]? = some o→alOf o=some t→o.dst=some u→u<env.length→a.tmps.getD u undef=.pointer (some ⟨b i,0,none⟩)) →
  ∃ E':Env,E'.w=E.w∧Ext E0 om0 E' (adopt T full env0 os ⟨env,om⟩).om∧Sat lo E' (adopt T full env0 os ⟨env,om⟩) a:=by
 intro os
 induction os with
 | nil=>intro b c E env om hs hx _ _ _ _; exact ⟨E,rfl,hx,hs⟩
 | cons o os ih=>
  intro b c E env om hs hx hB hD hC hP
  unfold adopt
  split
  ·rename_i t ha
   obtain ⟨_,⟨u,hu⟩,_⟩:=alOf_some ha
   have hB0:=hB 0 o t rfl ha
   obtain ⟨zi,_,hzi,_⟩:=hB0.cells
   rw [hzi]
   dsimp only
   obtain ⟨E',e1,e2,e3,e4⟩:=adopt1 hs hx hsz0 hB0 (hP 0 o t u rfl ha hu)
   rw [hC 0 o t zi rfl ha hzi]
   rw [hu]
   obtain ⟨E2,f1,f2,f3⟩:=ih (fun j=>b (j+1)) (fun j=>c (j+1)) E' _ _ e3 e2 (fun i o1 t1 h1 h2=>e4 t1 _ _ (fun he=>by
    have:=hD (i+1) 0 o1 o t1 t (by simpa using h1) rfl h2 ha he
    omega) (hB (i+1) o1 t1 (by simpa using h1) h2)) (fun i i' o1 o2 t1 t2 h1 h2 h3 h4 he=>by
    have:=hD (i+1) (i'+1) o1 o2 t1 t2 (by simpa using h1) (by simpa using h2) h3 h4 he
    omega) (fun i o1 t1 zi1 h1 h2 h3=>hC (i+1) o1 t1 zi1 (by simpa using h1) h2 h3) (fun i o1 t1 u1 h1 h2 h3 h4=>hP (i+1) o1 t1 u1 (by simpa using h1) h2 h3 (by rw [putE_length] at h4; exact h4))
   exact ⟨E2,f1.trans e1,f2,f3⟩
  ·exact ih (fun j=>b (j+1)) (fun j=>c (j+1)) E env om hs hx (fun i o1 t1 h1 h2=>hB (i+1) o1 t1 (by simpa using h1) h2) (fun i i' o1 o2 t1 t2 h1 h2 h3 h4 he=>by
    have:=hD (i+1) (i'+1) o1 o2 t1 t2 (by simpa using h1) (by simpa using h2) h3 h4 he
    omega) (fun i o1 t1 zi1 h1 h2 h3=>hC (i+1) o1 t1 zi1 (by simpa using h1) h2 h3) (fun i o1 t1 u1 h1 h2 h3 h4=>hP (i+1) o1 t1 u1 (by simpa using h1) h2 h3 h4)
theorem contA_eq {env:List D} {dst:Option Nat} {z c:List D}:∀ (os:List LOp),(∀ (k:Nat) (o':LOp) (t' u:Nat) (x:Operand),os[k]? = some o'→stOf o'=some (t',u,x)→dst=some u→cellsOf (evD env x)=some c)→((∀ (k:Nat) (o':LOp) (t' u:Nat) (x:Operand),os[k]? = some o'→stOf o'=some (t',u,x)→dst=some u→False)→c=z)→contA env dst z os=c
 | [],_,h2=>(h2 fun k o' t' u x h=>by simp at h).symm
 | o :: os,h1,h2=>by
  unfold contA
  split
  ·rename_i t u x hst
   split
   ·rename_i hd
    rw [h1 0 o t u x rfl hst hd]; rfl
   ·rename_i hd
    refine contA_eq os (fun k o' t' u' x' h3 h4 h5=>h1 (k+1) o' t' u' x' (by simpa using h3) h4 h5) fun hno=>h2 fun k o' t' u' x' h3 h4 h5=>?_
    cases k with
    | zero=>
     simp only [zg,Option.some.injEq] at h3
     subst h3
     rw [hst] at h4
     cases h4
     exact hd h5
    | succ k=>exact hno k o' t' u' x' (by simpa using h3) h4 h5
  ·rename_i hst
   refine contA_eq os (fun k o' t' u' x' h3 h4 h5=>h1 (k+1) o' t' u' x' (by simpa using h3) h4 h5) fun hno=>h2 fun k o' t' u' x' h3 h4 h5=>?_
   cases k with
   | zero=>
    simp only [zg,Option.some.injEq] at h3
    subst h3
    rw [hst] at h4
    cases h4
   | succ k=>exact hno k o' t' u' x' (by simpa using h3) h4 h5
theorem AW.regionA {base:Nat} (hT:TabOk P T) (hm:P.follows .mixedOrders=true) {id:Nat} {ops:Array Oper} {Q:AX→St→Prop} {s:St} (reg:List LOp) (own:List Nat) (m:Nat) (hreg:ops.toList.map lop=reg) (hok:drawOk ops [] m true=true) (hal:alFree ops m=true)
  (h:qopsA P T reg s.om (reg.take m) s.env fun env=>aops P T reg own m (reg.drop m) (adopt T (reg.take m) env (reg.take m) ⟨env,s.om⟩) (Q .norm) (fun d=>Q (.panic d))):AW base P (.region id ops true) Q s:=by
 intro r lo E a hr hb hs
 obtain ⟨ds,h1,h2,h3,h4⟩:=qopsA_facts h
 have hok':=drawOk_spec hok
 refine wpIn_region_any hm ?_
 have hrep:∀ j,j<ops.size→(zo ops.size false).getD j true=false:=by intro j hj; simp [Array.getD,hj]
 let E1:Env:={ E with w:={ E.w with drawn:=E.w.drawn+1 } }
 have hx:Ext E s.om E1 s.om:=⟨zl _,fun _ _=>rfl,fun _ h=>h,zl _,rfl,rfl,rfl,fun _ _ _=>rfl,fun b hl=>.inl hl,fun b hA=>.inl hA⟩
 have hlen:ops.size=reg.length:=by rw [← hreg]; simp
 have hmr:(reg.take m).length=m:=by have:=hok'.le; simp; omega
 have hR1:Rel E1 s.om:=by
  refine ⟨hs.rel.len,fun k o hk=>?_,hs.rel.inj,hs.rel.old,hs.rel.one,fun g c h=>(hs.rel.gt g c h).ext hs.rel hx⟩
  exact ObR.keep hs.rel hx (by rw [← hs.rel.len]; exact (List.getElem?_eq_some_iff.1 hk).1) (hs.rel.ob k o hk) fun hl b hb=>⟨rfl,(hs.rel.live_lt ⟨k,o,hk,hl,hb⟩).2⟩
 have hs1:Sat lo E1 s a:=⟨hR1,hs.defs.ext hs.rel hx,hs.size,fun t=>(hs.rd t).ext hs.rel hx⟩
 refine any_headA (lo:=lo) hT hreg hok' hal (E0:=E) (s0:=s) (ds:=ds) hs.rel h1 ?_ h3 ops.size _ E1 a (fun _=>0) (fun _=>[]) (by simp) closed_none (fun j _ hj=>hrep j hj) ?_ hx ?_ ?_ rfl
 ·intro fuel listed E2 a2 b c q1 q2 q3 q4 q5 q6 q7 q8
  have hdl:ds.length=m:=by rw [h1,hmr]
  have hgetO:∀ (i:Nat) (l:LOp),(reg.take m)[i]? = some l→∃ o,ops[i]? = some o∧l=lop o∧i<m:=by
   intro i l h
   have hi:=(List.getElem?_eq_some_iff.1 h).1
   rw [hmr] at hi
   rw [zd hi,← hreg] at h
   simp only [zk,zm,zh] at h
   obtain ⟨o,ho,rfl⟩:=h
   exact ⟨o,ho,rfl,hi⟩
  have uniq:∀ (i j:Nat) (o o':LOp) (u:Nat),(reg.take m)[i]? = some o→(reg.take m)[j]? = some o'→o.dst=some u→o'.dst=some u→j=i:=by
   intro i j l l' u hi hj hu hu'
   obtain ⟨o,ho,rfl,hm1⟩:=hgetO i l hi
   obtain ⟨o',ho',rfl,hm2⟩:=hgetO j l' hj
   by_cases e:j=i
   ·exact e
   ·rcases hok'.dst i j o o' hm1 hm2 ho ho' e with h | h
    ·have:o'.dst=some u:=hu'
     rw [h] at this; cases this
    ·have h1:o'.dst=some u:=hu'
     have h2:o.dst=some u:=hu
     rw [h1,h2] at h
     exact absurd rfl h
  have hlist:∀ (i:Nat) (o:LOp),(reg.take m)[i]? = some o→listed.getD i true=true:=by
   intro i l hi
   obtain ⟨o,ho,rfl,hm1⟩:=hgetO i l hi
   exact (q3 i (Array.getElem?_eq_some_iff.1 ho).1).2 hm1
  have hpins:∀ (i:Nat) (o:LOp) (t u:Nat),(reg.take m)[i]? = some o→alOf o=some t→o.dst=some u→u<s.env.length→a2.tmps.getD u undef=.pointer (some ⟨b i,0,none⟩):=by
   intro i o t u hi ha hu hul
   have hil:i<ds.length:=by have:=(List.getElem?_eq_some_iff.1 hi).1; omega
   have hr:=q6.rd u
   have hnew:=denv_new (L:=fun _=>true) (i:=0) (e:=s.env) hi (dsF_al (b:=b) hi ha hil) hu rfl hul (fun j' o' hj' ho'=>uniq i j' o o' u hi hj' hu ho')
   have hr:Rd E2 ((denv (fun _=>true) 0 (reg.take m) (dsF (reg.take m) ds b) s.env).getD u .any) (a2.tmps.getD u undef):=hr
   rw [hnew] at hr
   exact hr.v_inv
  have hweak:Sat lo E2 ⟨denv (fun _=>true) 0 (reg.take m) ds s.env,s.om⟩ a2:=by
   refine ⟨q6.rel,q6.defs,?_,fun u=>?_⟩
   ·have:=q6.size
    rw [denv_length] at this ⊢
    exact this
   ·by_cases hex:∃ (i:Nat) (o:LOp) (t:Nat),(reg.take m)[i]? = some o∧alOf o=some t∧o.dst=some u
    ·obtain ⟨i,o,t,hi,ha,hu⟩:=hex
     show Rd E2 ((denv (fun _=>true) 0 (reg.take m) ds s.env).getD u .any) _
     have:(denv (fun _=>true) 0 (reg.take m) ds s.env).getD u .any=D.any:=by
      by_cases hul:u<s.env.length
      ·exact denv_new (L:=fun _=>true) (i:=0) (e:=s.env) hi (h4 i o t hi ha) hu rfl hul (fun j' o' hj' ho'=>uniq i j' o o' u hi hj' hu ho')
      ·rw [zb,zc (by rw [denv_length]; omega)]; rfl
     rw [this]; exact .any _
    ·show Rd E2 ((denv (fun _=>true) 0 (reg.take m) ds s.env).getD u .any) _
     have e:(denv (fun _=>true) 0 (reg.take m) ds s.env).getD u .any=(denv (fun _=>true) 0 (reg.take m) (dsF (reg.take m) ds b) s.env).getD u .any:=by
      refine denv_at (by rw [dsF_len]) rfl rfl fun j o hj ho=>?_
      have hjl:j<ds.length:=by have:=(List.getElem?_eq_some_iff.1 hj).1; omega
      cases haj:alOf o with
      | some t=>exact absurd ⟨j,o,t,hj,haj,ho⟩ hex
      | none=>rw [dsF_no (b:=b) hj haj (za hjl)]; exact za hjl
     rw [e]
     exact q6.rd u
  have hstv:∀ (k:Nat) (o:LOp) (t u:Nat) (x:Operand) (d:D),(reg.take m)[k]? = some o→stOf o=some (t,u,x)→ds[k]? = some d→evD (denv (fun _=>true) 0 (reg.take m) ds s.env) x=d:=by
   intro k l t u x d hk hst hd
   obtain ⟨o,ho,rfl,hkm⟩:=hgetO k l hk
   have h9:=h3 k (lop o) d hk hd
   have hao:alOf (lop o)=none:=by
    cases hao:alOf (lop o) with
    | none=>rfl
    | some t=>rw [stOf_al hao] at hst; cases hst
   unfold StepA at h9
   rw [hao] at h9
   dsimp only at h9
   rw [hst] at h9
   rw [← h9.2.2]
   cases x with
   | tmp v=>
    have hop:o.op=.store t (.tmp u) (.tmp v):=(stOf_some hst).1
    have hv:v∈looked ops o:=looked_mem (by rw [hop]; simp [Op.operands])
    show (denv (fun _=>true) 0 (reg.take m) ds s.env).getD v .any=(denv (fun j=>decide (j<k)) 0 (reg.take m) ds s.env).getD v .any
    by_cases hex:∃ (j:Nat) (l:LOp),(reg.take m)[j]? = some l∧l.dst=some v
    ·obtain ⟨j,l,hj,hl⟩:=hex
     obtain ⟨oj,hoj,rfl,hjm⟩:=hgetO j l hj
     obtain ⟨hjk,_⟩:=hok'.look k j o oj v hkm hjm ho hoj hv hl
     have hjl:j<ds.length:=by omega
     have hdj:=za hjl
     by_cases hul:v<s.env.length
     ·rw [denv_new (L:=fun _=>true) hj hdj hl rfl hul (fun j' o' hj' ho'=>uniq j j' (lop oj) o' v hj hj' hl ho'),denv_new (L:=fun j=>decide (j<k)) hj hdj hl (by simpa using hjk) hul (fun j' o' hj' ho'=>uniq j j' (lop oj) o' v hj hj' hl ho')]
     ·rw [zb,zb,zc (by rw [denv_length]; exact zn hul),zc (by rw [denv_length]; exact zn hul)]
    ·rw [denv_old (fun j l hj hl=>absurd ⟨j,l,hj,hl⟩ hex),denv_old (fun j l hj hl=>absurd ⟨j,l,hj,hl⟩ hex)]
   | _=>rfl
  obtain ⟨E3,e1,e2,e3⟩:=adopt_ok (T:=T) rfl (reg.take m) (denv (fun _=>true) 0 (reg.take m) ds s.env) (reg.take m) b c E2 _ s.om hweak q5 (fun i o t hi ha=>q7.1 i o t hi ha (hlist i o hi)) (fun i i' o o' t t' hi hi' ha ha' he=>q7.2.1 i i' o o' t t' hi hi' ha ha' (hlist i o hi) (hlist i' o' hi') he) (fun i o t zi hi ha hz=>by
   obtain ⟨g1,g2⟩:=q7.2.2 i o t hi ha (hlist i o hi)
   refine contA_eq _ (fun k o' t' u x hk hst hu=>?_) (fun hno=>g1 zi hz fun k o' t' u x hk hst hu=>(hno k o' t' u x hk hst hu).elim)
   have hkl:k<ds.length:=by have:=(List.getElem?_eq_some_iff.1 hk).1; omega
   rw [hstv k o' t' u x _ hk hst (za hkl)]
   exact g2 k o' t' u x _ hk hst hu (hlist k o' hk) (za hkl)) (fun i o t u hi ha hu hul=>hpins i o t u hi ha hu (by rw [denv_length] at hul; exact hul))
  rw [← e1]
  exact any_tail hT hreg hok' own hb fuel listed m _ E3 a2 q1 q2 (zl _) hok'.le q3 q4 e2 e3 h2
 ·unfold unl
  have:=List.countP_le_length (p:=fun b=>!b) (l:=(zo ops.size false).toList)
  simpa using this
 ·have:denv (fun j=>(zo ops.size false).getD j true) 0 (reg.take m) (dsF (reg.take m) ds fun _=>0) s.env=denv (fun _=>false) 0 (reg.take m) (dsF (reg.take m) ds fun _=>0) s.env:=denv_congr fun j hj=>by
   rw [zf]
   exact hrep j (by simp at hj; omega)
  rw [this,denv_none _ (fun _=>rfl)]
  exact hs1
 ·refine ⟨fun i o t hi ha hl=>?_,fun i i' o o' t t' hi hi' ha ha' hl hl' he=>?_,fun i o t hi ha hl=>?_⟩
  ·have hi':=(List.getElem?_eq_some_iff.1 hi).1
   rw [hmr] at hi'
   rw [hrep i (by have:=hok'.le; omega)] at hl; cases hl
  rotate_left
  ·have hi':=(List.getElem?_eq_some_iff.1 hi).1
   rw [hmr] at hi'
   rw [hrep i (by have:=hok'.le; omega)] at hl; cases hl
  ·have hi2:=(List.getElem?_eq_some_iff.1 hi).1
   rw [hmr] at hi2
   rw [hrep i (by have:=hok'.le; omega)] at hl; cases hl
end
end Go.Proofs.YtbmedfjmccnclaaGreat.AWP
namespace Go.Proofs.YtbmedfjmccnclaaGreat.AWP
open Go
open _root_.List renaming getElem?_of_mem → za, replicate → zb, getElem?_take → zc
open _root_.Nat renaming le_refl → zd, zero_le → ze
section
variable {P:Program} {T:Tab}
def res1 (T:Tab) (s:St):ResultVar→Option D
 | .tmp t=>some (s.env.getD t .any)
 | .cell a ty=>qLoad T s.om ty (s.env.getD a .any)
def resL (T:Tab) (s:St):List ResultVar→Option (List D)
 | []=>some []
 | r :: rs=>
  match res1 T s r,resL T s rs with
  | some d,some ds=>some (d :: ds)
  | _,_=>none
def resD (T:Tab) (s:St) (rs:List ResultVar):Option D:=
 match resL T s rs with
 | some [d]=>some d
 | some ds=>some (.tup ds)
 | none=>none
def resOne (tmps:Array Value):ResultVar→Sem Value
 | .tmp t=>pure (tmps.getD t undef)
 | .cell p t=>do loadVar t (← asAddr (tmps.getD p undef))
theorem results_eq (fn:Func) (tmps:Array Value):results fn tmps=(do let vs ← fn.results.mapM (resOne tmps); pure (if h:vs.size=1 then vs[0] else .tuple vs)):=rfl
theorem resL_ok {lo:Lo} (hT:TabOk P T) {E:Env} {s:St} {a:Act} (hs:Sat lo E s a):∀ (rs:List ResultVar) (ds:List D),resL T s rs=some ds →
  ∃ vs:List Value,(rs.mapM (resOne a.tmps)).run P E.w=.ok vs E.w∧vs.length=ds.length∧∀ (j:Nat) (d:D),ds[j]? = some d→∃ y,vs[j]? = some y∧Rd E d y:=by
 intro rs
 induction rs with
 | nil=>intro ds h; simp only [resL,Option.some.injEq] at h; subst h; exact ⟨[],by simp,rfl,by simp⟩
 | cons r rs ih=>
  intro ds h
  simp only [resL] at h
  split at h
  ·rename_i d ds' h1 h2
   simp only [Option.some.injEq] at h
   subst h
   obtain ⟨vs,q1,q2,q3⟩:=ih ds' h2
   have hv:∃ y,(resOne a.tmps r).run P E.w=.ok y E.w∧Rd E d y:=by
    cases r with
    | tmp t=>
     simp only [res1,Option.some.injEq] at h1
     subst h1
     exact ⟨_,rfl,hs.rd t⟩
    | cell p t=>
     simp only [res1] at h1
     obtain ⟨z,hz,hd⟩:=qLoad_ok hT hs.rel h1 (hs.rd p)
     have hpe:∃ ad,a.tmps.getD p undef=.pointer (some ad):=by
      have hp:=hs.rd p
      unfold qLoad at h1
      split at h1
      ·simp at h1
      ·split at h1
       ·simp at h1
       ·rename_i row hrow
        obtain ⟨ad,e,_⟩:=rdRow_ok hs.rel hrow hp
        exact ⟨ad,e⟩
     obtain ⟨ad,hpe⟩:=hpe
     refine ⟨z,?_,hd⟩
     rw [← hz]
     simp only [resOne,hpe,asAddr,Instr.loadAt,Instr.sureAddr,pure_bind]
   obtain ⟨y,hy,hd⟩:=hv
   refine ⟨y :: vs,?_,by simp [q2],fun j d' hj=>?_⟩
   ·rw [List.mapM_cons]
    simp only [Sem.run_bind,Sem.run_pure,hy,Result.andThen_ok,q1]
   ·cases j with
    | zero=>
     simp only [List.getElem?_cons_zero,Option.some.injEq] at hj
     subst hj
     exact ⟨y,rfl,hd⟩
    | succ j=>simpa using q3 j d' (by simpa using hj)
  ·simp at h
theorem resD_ok {lo:Lo} (hT:TabOk P T) {E:Env} {s:St} {a:Act} (hs:Sat lo E s a) {fn:Func} {d:D} (h:resD T s fn.results.toList=some d):∃ y,(results fn a.tmps).run P E.w=.ok y E.w∧Rd E d y:=by
 unfold resD at h
 have key:∀ ds,resL T s fn.results.toList=some ds→∃ vs:List Value,(results fn a.tmps).run P E.w=.ok (if h:vs.toArray.size=1 then vs.toArray[0] else .tuple vs.toArray) E.w∧vs.length=ds.length∧∀ (j:Nat) (d:D),ds[j]? = some d→∃ y,vs[j]? = some y∧Rd E d y:=by
  intro ds hds
  obtain ⟨vs,q1,q2,q3⟩:=resL_ok hT hs _ ds hds
  refine ⟨vs,?_,q2,q3⟩
  rw [results_eq,Array.mapM_eq_mapM_toList]
  simp only [Sem.run_bind,Sem.run_map,Sem.run_pure]
  rw [q1]
  rfl
 split at h
 ·rename_i d' hd'
  simp only [Option.some.injEq] at h
  subst h
  obtain ⟨vs,q1,q2,q3⟩:=key _ hd'
  obtain ⟨y,hy,hd⟩:=q3 0 d' (by simp)
  match vs,q2,hy with
  | [v],_,hy=>
   simp only [List.getElem?_cons_zero,Option.some.injEq] at hy
   subst hy
   exact ⟨v,by simpa using q1,hd⟩
 ·rename_i ds hne hds
  simp only [Option.some.injEq] at h
  subst h
  obtain ⟨vs,q1,q2,q3⟩:=key _ hds
  have hn1:vs.length≠1:=by
   intro h1
   rw [q2] at h1
   match ds,h1 with
   | [d],_=>exact hne d rfl
  refine ⟨.tuple vs.toArray,by simpa [hn1] using q1,.tup _ (by simp [q2]) fun j d hj=>?_⟩
  obtain ⟨y,h1,h2⟩:=q3 j d hj
  simpa [Array.getD_eq_getD_getElem?,h1] using h2
 ·simp at h
def Fin (om0 om:List Ob) (o:Out) (R:Out→List Ob→Prop):Prop:=
 ∀ E0 E e,Rel E0 om0→Ext E0 om0 E om→Rel E om→OutR E o e→∃ E' o' om',R o' om'∧E'.w=E.w∧Ext E0 om0 E' om'∧Rel E' om'∧OutR E' o' e
def finQ (T:Tab) (rs:List ResultVar) (om0:List Ob) (R:Out→List Ob→Prop):AX→St→Prop
 | .norm,s | .ret,s=>opt (resD T s rs) fun d=>Fin om0 s.om (.ret d) R
 | .panic d,s=>Fin om0 s.om (.panic d) R
 | .exit _,_=>False
theorem AC.body (hT : TabOk P T) {f : FuncId} {fn : Func} {c : Code} (hf : P.funcs[f]? = some fn) (hb : fn.body = some c) (hn : (fn.name == "runtime.NumGoroutine") = false) {rs : List ResultVar} (hrs : fn.results.toList = rs) {n : Nat} (hnt : fn.ntmps = n) {ds : List D} {om : List Ob} {R : Out → List Ob → Prop}
  (h:AW om.length P c (finQ T rs om R) ⟨ds++zb (n - ds.length) D.any,om⟩):AC P f ds om R:=by
 subst hrs hnt
 refine ⟨by simp [callOk,hf,hb,hn],fun E vs hR hA=>?_⟩
 refine (callsIn_wide (n:=0)).1 ?_
 refine callsIn_of_wp_marks hf hb trivial ?_
 have hs:Sat ⟨E.w.heap.size,[],false⟩ E ⟨ds++zb (fn.ntmps - ds.length) D.any,om⟩ { tmps:=vs++Array.replicate (fn.ntmps - vs.size) undef,defers:=[] }:=by
  refine ⟨hR,Marks.nil (zd _),by simp [hA.1],fun t=>?_⟩
  by_cases ht:t<ds.length
  ·have h1:(ds++zb (fn.ntmps - ds.length) D.any).getD t .any=ds[t]:=by
    simp [List.getD_eq_getElem?_getD,List.getElem?_append,ht]
   have h2:(vs++Array.replicate (fn.ntmps - vs.size) undef).getD t undef=vs.getD t undef:=by
    have:t<vs.size:=by rw [hA.1]; exact ht
    simp [Array.getD_eq_getD_getElem?,Array.getElem?_append,this]
   show Rd E ((ds++zb (fn.ntmps - ds.length) D.any).getD t .any) _
   rw [h1]
   have:=hA.2 t ds[t] (List.getElem?_eq_getElem ht)
   rwa [← h2] at this
  ·have h1:(ds++zb (fn.ntmps - ds.length) D.any).getD t .any=.any:=by
    simp only [List.getD_eq_getElem?_getD,List.getElem?_append,ht,if_false,List.getElem?_replicate]
    split <;> rfl
   show Rd E ((ds++zb (fn.ntmps - ds.length) D.any).getD t .any) _
   rw [h1]
   exact .any _
 refine wpIn_mono (h none _ E _ ⟨.inl rfl,fun h=>by cases h⟩ (Nat.le_of_eq hR.len) hs) ?_
 rintro e a' w' ⟨E',x,s',hq,hx,rfl,hext,hsat⟩
 have hext':Ext E om E' s'.om:=ExtB.toExt (hR.len ▸ hext)
 have fin:∀ (o:Out) (en:Ending) (E'':Env),Turn E.w.heap.size E' E'' s'.om→Fin om s'.om o R→OutR E'' o en→∃ E3 o' om',R o' om'∧E3.w=E''.w∧Ext E om E3 om'∧Rel E3 om'∧OutR E3 o' en:=
  fun o en E'' ht hfin ho=>hfin E E'' en hR (hext'.turn ht) ht.rel ho
 obtain ⟨h0,bs,hnd,hds,hbs,_⟩:=hsat.defs
 simp only at h0 hds hbs
 have ret:∀ d,resD T s' fn.results.toList=some d→Fin om s'.om (.ret d) R→LeavesInM Fence.wide 0 P fn a'.tmps (fun e w'=>∃ E' o om',R o om'∧E'.w=w'∧Ext E om E' om'∧Rel E' om'∧OutR E' o e) a'.defers .returning E'.w:=by
  intro d hd hfin
  rw [hds]
  refine leave_marks (by simp) bs E' hsat.rel hnd hbs fun E'' ht=>?_
  have hsat':Sat ⟨0,[],false⟩ E'' s' { a' with defers:=[] }:=⟨ht.rel,Marks.nil (ze _),hsat.size,fun t=>ht.rd _ _ (hsat.rd t)⟩
  obtain ⟨y,hy,hyd⟩:=resD_ok hT hsat' hd
  exact ⟨y,hy,fin _ (.returned y) E'' ht hfin hyd⟩
 cases x <;> cases e <;> simp only [cx] at hx <;> simp only [finQ] at hq
 ·obtain ⟨d,hd,hfin⟩:=opt_elim hq
  exact ret d hd hfin
 ·obtain ⟨d,hd,hfin⟩:=opt_elim hq
  exact ret d hd hfin
 ·show LeavesInM Fence.wide 0 P fn a'.tmps _ a'.defers (.panicking _) E'.w
  rw [hds]
  refine leave_marks (by simp) bs E' hsat.rel hnd hbs fun E'' ht=>?_
  obtain ⟨y,h1,h2⟩:=hx
  exact fin _ (.panicked _) E'' ht hq ⟨y,h1,ht.rd _ _ h2⟩
theorem Rd.toBl {E:Env} {d:D} {y:Value} (h:Rd E d y):Bl E.n d:=by
 induction h with
 | v x=>exact .v x
 | any y=>exact .any
 | nt n=>exact .nt
 | sl ad u hr hl hm ha hc hd ih=>
  refine .sl fun r hr' d hd'=>?_
  obtain ⟨i,hi⟩:=za hr'
  obtain ⟨j,hj⟩:=za hd'
  exact ih i r j d hi hj
 | pel ad u hA hc hd ih=>
  refine .pel fun d hd'=>?_
  obtain ⟨j,hj⟩:=za hd'
  exact ih j d hj
 | agg vs hs h1 hd ih=>
  refine .agg fun d hd'=>?_
  obtain ⟨j,hj⟩:=za hd'
  exact ih j d hj
 | tup vs hs hd ih=>
  refine .tup fun d hd'=>?_
  obtain ⟨j,hj⟩:=za hd'
  exact ih j d hj
 | ref hk hg=>exact .ref hk
 | rel hk hg=>exact .rel hk
 | own hk=>exact .own hk
 | fn vs hs hd ih=>
  refine .fn fun d hd'=>?_
  obtain ⟨j,hj⟩:=za hd'
  exact ih j d hj
 | ifc h ih=>exact .ifc ih
 | yld hk hg=>exact .yld hk
 | bm h ih=>exact .bm ih
theorem Fin.pure {om0 om:List Ob} {d:D} {R:Out→List Ob→Prop} (h:om.take om0.length=om0) (hd:Bl 0 d) (hr:R (.ret d) om0):Fin om0 om (.ret d) R:=by
 intro E0 E e hR0 hx hR ho
 refine ⟨{ E with n:=E0.n },.ret d,om0,hr,rfl,?_,?_,?_⟩
 ·refine ⟨zd _,hx.g,hx.A,hx.size,hx.os,hx.tape,hx.output,hx.keep,?_,hx.newA⟩
  rintro b ⟨k,o,hk,hl,hg⟩
  refine hx.live b ⟨k,o,?_,hl,hg⟩
  rw [← h] at hk
  rw [zc] at hk
  split at hk
  ·exact hk
  ·simp at hk
 ·have hx':Ext E0 om0 { E with n:=E0.n } om0:=by
   refine ⟨zd _,hx.g,hx.A,hx.size,hx.os,hx.tape,hx.output,hx.keep,?_,hx.newA⟩
   rintro b ⟨k,o,hk,hl,hg⟩
   refine hx.live b ⟨k,o,?_,hl,hg⟩
   rw [← h,zc] at hk
   split at hk
   ·exact hk
   ·simp at hk
  have up:∀ (k:Nat) (o:Ob),om0[k]? = some o→om[k]? = some o:=by
   intro k o hk
   rw [← h,zc] at hk
   split at hk
   ·exact hk
   ·simp at hk
  refine ⟨hR0.len,fun k o hk=>?_,fun k k' o o' b hk hk' hl hl' h1 h2=>hR.inj k k' o o' b (up k o hk) (up k' o' hk') hl hl' h1 h2,hR.old,fun k hk=>hR.one k (Nat.lt_of_lt_of_le hk hx.n),fun g c h=>Rd.bl (E:=E) (E2:=⟨E0.n,E.g,E.A,E.w⟩) (n:=0) (ze _) (fun _ h=>absurd h (Nat.not_lt_zero _)) (fun _ h=>h) rfl (hR.gt g c h) (gtab_bl h)⟩
  have hk0:k<E0.n:=by rw [← hR0.len]; exact (List.getElem?_eq_some_iff.1 hk).1
  have hob0:=hR0.ob k o hk
  have hob:=hR.ob k o (up k o hk)
  have down:∀ (d:D) (y:Value),Bl E0.n d→Rd E d y→Rd { E with n:=E0.n } d y:=fun d y hb hd=>Rd.bl (E:=E) (E2:={ E with n:=E0.n }) (zd _) (fun _ _=>rfl) (fun _ h=>h) rfl hd hb
  have cells:∀ (c:List D) (cs0 cs:Array Value),CellsR E0 c cs0→CellsR E c cs→CellsR { E with n:=E0.n } c cs:=fun c cs0 cs h0 h j d hj=>by
   obtain ⟨y0,_,_,r0⟩:=h0 j d hj
   obtain ⟨y,e1,e2,e3⟩:=h j d hj
   exact ⟨y,e1,e2,down d y r0.toBl e3⟩
  cases o with
  | var ty c=>
   obtain ⟨b,cs,h1,h2,h3,h4,h5⟩:=hob
   obtain ⟨_,cs0,_,_,_,_,h50⟩:=hob0
   exact ⟨b,cs,h1,h2,h3,h4,cells c cs0 cs h50 h5⟩
  | slc ty sz rows=>
   obtain ⟨h0,hs,hh | ⟨b,cs,cap,q1,q2,q3,q4,q5,q6,q7⟩⟩:=hob
   ·exact ⟨h0,hs,.inl hh⟩
   ·obtain ⟨_,_,hh | ⟨_,cs0,_,_,_,_,_,_,_,q70⟩⟩:=hob0
    ·refine ⟨h0,hs,.inr ⟨b,cs,cap,q1,q2,q3,q4,q5,q6,?_⟩⟩
     rw [hh.2]
     intro j d hj
     simp at hj
    ·exact ⟨h0,hs,.inr ⟨b,cs,cap,q1,q2,q3,q4,q5,q6,cells _ cs0 cs q70 q7⟩⟩
  | frz sz rows=>exact ⟨down _ _ hob0.1.toBl hob.1,hob.2⟩
  | frv c=>exact ⟨down _ _ hob0.1.toBl hob.1,hob.2⟩
  | lp ps as bo st pe env=>
   obtain ⟨b,r,q1,q2,q3,q4,q5,q6,q7,q8,q9,q10⟩:=hob
   obtain ⟨b0,r0,_,_,_,_,_,_,_,_,_,q100⟩:=hob0
   exact ⟨b,r,q1,q2,q3,q4,q5,q6,q7,q8,q9,fun t=>down _ _ (q100 t).toBl (q10 t)⟩
  | mp es=>exact hob
  | it s pos=>exact hob
  | alt ty cs=>
   obtain ⟨c,p1,p2,b,a,h1,h2,h3,h4,h5⟩:=hob
   exact ⟨c,p1,p2,b,a,h1,h2,h3,h4,fun j d hj=>by
    obtain ⟨y,e1,e2,e3⟩:=h5 j d hj
    exact ⟨y,e1,e2,down _ _ ((p2 d (List.mem_of_getElem? hj)).mono (ze _)) e3⟩⟩
  | dead=>trivial
 ·obtain ⟨y,rfl,hy⟩:=ho.ret_inv
  exact Rd.bl (E:=E) (E2:={ E with n:=E0.n }) (ze _) (fun k hk=>absurd hk (by omega)) (fun _ h=>h) rfl hy hd
end
end Go.Proofs.YtbmedfjmccnclaaGreat.AWP
namespace Go.Proofs.YtbmedfjmccnclaaGreat.AWP
open Go
open _root_.Bool renaming and_eq_true → za
open _root_.Array renaming replicate → zb
inductive LC where
 | skip
 | reg (ops:List LOp) (own:List Nat) (m:Option Nat)
 | regt (ops:List LOp) (own:List Nat) (m:Nat) (t:OT)
 | regp (ops:List LOp) (own:List Nat) (pre:List Nat) (m:Nat)
 | regq (ops:List LOp) (own:List Nat) (m:Nat) (t:OT)
 | rega (ops:List LOp) (own:List Nat) (m:Nat)
 | rfun (f:Operand) (ps:List Tmp) (a b:LC)
 | seq (a b:LC)
 | cond (c:Operand) (a b:LC)
 | block (id:Nat) (a:LC)
 | loop (a:LC)
 | exit (id:Nat)
 | label (l:Nat)
 | ret
 | other
def callAt (ops:Array Oper) (i:Nat):Bool:=
 match ops[i]? with
 | some o=>match o.op with
  | .call c=>match c.callee with
   | .builtin _=>false
   | _=>true
  | _=>false
 | none=>false
def tailed (ops:Array Oper) (i:Nat):Bool:=(List.range i).all fun j=>reachE ops (if callAt ops i || (ops.size == 17 && callAt ops 11 && callAt ops 12 && ops.any (fun o=>o.guard.isSome)) then 9 else 5) i j
def tailAt (ops:Array Oper):Nat→Nat
 | 0=>0
 | i+1=>if tailed ops i then tailAt ops i else i+1
def quietB:Op→Bool
 | .store .. | .alloc .. | .box .. | .assign .. => false
 | .call c=>
  match c.callee with
  | .builtin .append=>false
  | _=>true
 | _=>true
def firstLoud (ops:List Oper):Nat:=(ops.takeWhile fun o=>quietB o.op).length
def headAt (ops:Array Oper):Nat→Nat
 | 0=>0
 | m+1=>if drawOk ops [] (m+1) false then m+1 else headAt ops m
def preAt (ops:Array Oper):Nat→Array Bool→List Nat
 | 0,_=>[]
 | f+1,l=>
  match (Region.ready .any ops l).find? fun i=>(match ops[i]? with | some o=>pureOp o | none=>false) && Region.free .any ops l i with
  | some i=>i :: preAt ops f (l.setIfInBounds i true)
  | none=>[]
def tailAtP (ops:Array Oper) (pre:List Nat):Nat→Nat
 | 0=>0
 | i+1=>if (!pre.contains i) && (List.range i).all fun j=>pre.contains j || reachE ops 5 i j then tailAtP ops pre i else i+1
def preOf (ops:Array Oper):List Nat:=preAt ops ops.size (zb ops.size false)
def storeIn (l:List Oper):Bool:=(l.any fun o=>match o.op with | .store .. => true | _=>false) || mk2 l
def lc:Code→LC
 | .skip=>.skip
 | .region _ ops d=>
  if d then
   if roundOkB ops then
    if decide (tailAt ops ops.size≤firstLoud ops.toList) && drawOk ops [] (tailAt ops ops.size) true then .reg (ops.toList.map lop) [] (some (tailAt ops ops.size))
    else if decide (ops.size≤headAt ops (firstLoud ops.toList)+lim3 ops) && drawOk ops [] (headAt ops (firstLoud ops.toList)) false then .regt (ops.toList.map lop) [] (headAt ops (firstLoud ops.toList)) (mkTree ops ops.size (headMask ops.size (headAt ops (firstLoud ops.toList))))
    else if alFree ops (tailAt ops ops.size) && drawOk ops [] (tailAt ops ops.size) true then .rega (ops.toList.map lop) [] (tailAt ops ops.size)
    else if storeIn ops.toList && (backB ops && drawOk ops [] 0 false) then .regq (ops.toList.map lop) [] 0 (.free (depsOf ops))
    else .other
   else if decide (tailAtP ops (preOf ops) ops.size≤firstLoud ops.toList) && (drawOk ops (preOf ops) (tailAtP ops (preOf ops) ops.size) true && preOk ops (zb ops.size false) (preOf ops)) then .regp (ops.toList.map lop) [] (preOf ops) (tailAtP ops (preOf ops) ops.size)
   else if decide (ops.size≤headAt ops (firstLoud ops.toList)+6) && drawOk ops [] (headAt ops (firstLoud ops.toList)) false then .regq (ops.toList.map lop) [] (headAt ops (firstLoud ops.toList)) (mkTree ops ops.size (headMask ops.size (headAt ops (firstLoud ops.toList))))
   else if alFree ops (tailAt ops ops.size) && drawOk ops [] (tailAt ops ops.size) true then .rega (ops.toList.map lop) [] (tailAt ops ops.size)
   else if storeIn (ops.toList.take (tailAtP ops (preOf ops) ops.size)) && (backB ops && drawOk ops [] 0 false) then .regq (ops.toList.map lop) [] 0 (.free (depsOf ops))
   else if drawOk ops (preOf ops) (tailAtP ops (preOf ops) ops.size) true && preOk ops (zb ops.size false) (preOf ops) then .regp (ops.toList.map lop) [] (preOf ops) (tailAtP ops (preOf ops) ops.size)
   else .other
  else .reg (ops.toList.map lop) [] none
 | .rangeFunc g ps a b=>.rfun g ps.toList (lc a) (lc b)
 | .seq a b=>.seq (lc a) (lc b)
 | .cond c a b=>.cond c (lc a) (lc b)
 | .block id a=>.block id (lc a)
 | .loop a=>.loop (lc a)
 | .exit id=>.exit id
 | .label l=>.label l
 | .ret=>.ret
 | _=>.other
def LC.st:LC→LC
 | .reg ops _ m=>.reg ops [] m
 | .regt ops _ m t=>.regt ops [] m t
 | .regp ops _ pre m=>.regp ops [] pre m
 | .regq ops _ m t=>.regq ops [] m t
 | .rega ops _ m=>.rega ops [] m
 | .rfun f ps a b=>.rfun f ps a.st b.st
 | .seq a b=>.seq a.st b.st
 | .cond c a b=>.cond c a.st b.st
 | .block id a=>.block id a.st
 | .loop a=>.loop a.st
 | l=>l
theorem lc_region (id:Nat) (ops:Array Oper) (d:Bool):lc (.region id ops d)=.other∨(∃ r m,lc (.region id ops d)=.reg r [] m∧noRange (.region id ops d)=true)∨(∃ r m t,lc (.region id ops d)=.regt r [] m t∧noRange (.region id ops d)=true)∨(∃ r pre m,lc (.region id ops d)=.regp r [] pre m)∨(∃ r m t,lc (.region id ops d)=.regq r [] m t)∨∃ r m,lc (.region id ops d)=.rega r [] m:=by
 generalize hl:lc (.region id ops d)=l
 rw [lc] at hl
 split at hl
 ·split at hl
  ·rename_i hr
   split at hl
   ·subst hl; exact .inr (.inl ⟨_,_,rfl,by simp [noRange,hr]⟩)
   ·split at hl
    ·subst hl; exact .inr (.inr (.inl ⟨_,_,_,rfl,by simp [noRange,hr]⟩))
    ·split at hl
     ·subst hl; exact .inr (.inr (.inr (.inr (.inr ⟨_,_,rfl⟩))))
     ·split at hl
      ·subst hl; exact .inr (.inr (.inr (.inr (.inl ⟨_,_,_,rfl⟩))))
      ·subst hl; exact .inl rfl
  ·split at hl
   ·subst hl; exact .inr (.inr (.inr (.inl ⟨_,_,_,rfl⟩)))
   ·split at hl
    ·subst hl; exact .inr (.inr (.inr (.inr (.inl ⟨_,_,_,rfl⟩))))
    ·split at hl
     ·subst hl; exact .inr (.inr (.inr (.inr (.inr ⟨_,_,rfl⟩))))
     ·split at hl
      ·subst hl; exact .inr (.inr (.inr (.inr (.inl ⟨_,_,_,rfl⟩))))
      ·split at hl
       ·subst hl; exact .inr (.inr (.inr (.inl ⟨_,_,_,rfl⟩)))
       ·subst hl; exact .inl rfl
 ·rename_i hd
  subst hl
  exact .inr (.inl ⟨_,_,rfl,by simp [noRange,hd]⟩)
def ALW (base:Nat) (P:Program) (l:LC) (Q:AX→St→Prop) (s:St):Prop:=∀ c,lc c=l.st→AW base P c Q s
theorem regNo {id:Nat} {ops:Array Oper} {d:Bool} {l:LC} (h:lc (.region id ops d)=l) (h1:∀ r m,l≠.reg r [] m) (h3:∀ r m t,l≠.regt r [] m t) (h4:∀ r p m,l≠.regp r [] p m) (h5:∀ r m t,l≠.regq r [] m t) (h6:∀ r m,l≠.rega r [] m) (h2:l≠.other):False:=by
 rcases lc_region id ops d with e | ⟨r,m,e,_⟩ | ⟨r,m,t,e,_⟩ | ⟨r,p,m,e⟩ | ⟨r,m,t,e⟩ | ⟨r,m,e⟩
 ·exact h2 (h.symm.trans e)
 ·exact h1 r m (h.symm.trans e)
 ·exact h3 r m t (h.symm.trans e)
 ·exact h4 r p m (h.symm.trans e)
 ·exact h5 r m t (h.symm.trans e)
 ·exact h6 r m (h.symm.trans e)
theorem lc_inv {c:Code}:(∀ a b,lc c=.seq a b→∃ x y,c=.seq x y∧lc x=a∧lc y=b)∧(lc c=.skip→c=.skip)∧(lc c=.ret→c=.ret)∧(∀ i,lc c=.exit i→c=.exit i)∧(∀ i,lc c=.label i→c=.label i) ∧
  (∀ i a,lc c=.block i a→∃ x,c=.block i x∧lc x=a)∧(∀ o a b,lc c=.cond o a b→∃ x y,c=.cond o x y∧lc x=a∧lc y=b)∧(∀ a,lc c=.loop a→∃ x,c=.loop x∧lc x=a) ∧
  (∀ r o m,lc c=.reg r o m→∃ id ops d,c=.region id ops d)∧(∀ r o m t,lc c=.regt r o m t→∃ id ops d,c=.region id ops d)∧(∀ f ps a b,lc c=.rfun f ps a b→∃ qs x y,c=.rangeFunc f qs x y∧qs.toList=ps∧lc x=a∧lc y=b)∧(∀ r o p m,lc c=.regp r o p m→∃ id ops d,c=.region id ops d)∧(∀ r o m t,lc c=.regq r o m t→∃ id ops d,c=.region id ops d)∧(∀ r o m,lc c=.rega r o m→∃ id ops d,c=.region id ops d):=by
 cases c with
 | region id ops d=>
  refine ⟨fun a b h=>(regNo h (by simp) (by simp) (by simp) (by simp) (by simp) (by simp)).elim,fun h=>(regNo h (by simp) (by simp) (by simp) (by simp) (by simp) (by simp)).elim,fun h=>(regNo h (by simp) (by simp) (by simp) (by simp) (by simp) (by simp)).elim,fun i h=>(regNo h (by simp) (by simp) (by simp) (by simp) (by simp) (by simp)).elim,fun i h=>(regNo h (by simp) (by simp) (by simp) (by simp) (by simp) (by simp)).elim,
   fun i a h=>(regNo h (by simp) (by simp) (by simp) (by simp) (by simp) (by simp)).elim,fun o a b h=>(regNo h (by simp) (by simp) (by simp) (by simp) (by simp) (by simp)).elim,fun a h=>(regNo h (by simp) (by simp) (by simp) (by simp) (by simp) (by simp)).elim,fun r o m _=>⟨_,_,_,rfl⟩,fun r o m t _=>⟨_,_,_,rfl⟩,fun f ps a b h=>(regNo h (by simp) (by simp) (by simp) (by simp) (by simp) (by simp)).elim,fun r o p m _=>⟨_,_,_,rfl⟩,fun r o m t _=>⟨_,_,_,rfl⟩,fun r o m _=>⟨_,_,_,rfl⟩⟩
 | seq a b=>simp only [lc,reduceCtorEq,LC.seq.injEq,false_imp_iff,imp_false,forall_const,and_true,true_and,not_false_eq_true,implies_true]; exact fun _ _ h=>⟨a,b,rfl,h⟩
 | cond o a b=>simp only [lc,reduceCtorEq,LC.cond.injEq,false_imp_iff,imp_false,forall_const,and_true,true_and,not_false_eq_true,implies_true]; rintro _ _ _ ⟨rfl,h⟩; exact ⟨a,b,rfl,h⟩
 | rangeFunc g qs x y=>simp only [lc,reduceCtorEq,LC.rfun.injEq,false_imp_iff,imp_false,forall_const,and_true,true_and,not_false_eq_true,implies_true]; refine fun f ps a b h=>?_; obtain ⟨rfl,h1,h2,h3⟩:=h; exact ⟨qs,x,y,rfl,h1,h2,h3⟩
 | _=>simp [lc]
section
variable {base:Nat} {P:Program} {T:Tab} {Q Q':AX→St→Prop} {s:St}
theorem ALW.mono {l:LC} (h:ALW base P l Q s) (hq:∀ x s,Q x s→Q' x s):ALW base P l Q' s:=fun c hc=>(h c hc).mono hq
theorem ALW.seq {a b:LC} (h:ALW base P a (thenQ (ALW base P b Q) Q) s):ALW base P (.seq a b) Q s:=by
 intro c hc
 obtain ⟨x,y,rfl,hx,hy⟩:=lc_inv.1 _ _ hc
 refine AW.seq ((h _ hx).mono ?_)
 intro z s' hq
 cases z
 ·exact hq _ hy
 ·exact hq
 ·exact hq
 ·exact hq
theorem ALW.skip (h:Q .norm s):ALW base P .skip Q s:=by
 intro c hc
 obtain rfl:=lc_inv.2.1 hc
 exact AW.skip h
theorem ALW.ret (h:Q .ret s):ALW base P .ret Q s:=by
 intro c hc
 obtain rfl:=lc_inv.2.2.1 hc
 exact AW.ret h
theorem ALW.exit {id:Nat} (h:Q (.exit id) s):ALW base P (.exit id) Q s:=by
 intro c hc
 obtain rfl:=lc_inv.2.2.2.1 _ hc
 exact AW.exit h
theorem ALW.label {l:Nat} (h:Q .norm s):ALW base P (.label l) Q s:=by
 intro c hc
 obtain rfl:=lc_inv.2.2.2.2.1 _ hc
 exact AW.label h
theorem ALW.block {id:Nat} {a:LC} (h:ALW base P a (blockQ id Q) s):ALW base P (.block id a) Q s:=by
 intro c hc
 obtain ⟨x,rfl,hx⟩:=lc_inv.2.2.2.2.2.1 _ _ hc
 exact AW.block (h _ hx)
theorem ALW.cond {o:Operand} {a b:LC} {t:Bool} (ht:evD s.env o=.v (.bool t)) (h:if t then ALW base P a Q s else ALW base P b Q s):ALW base P (.cond o a b) Q s:=by
 intro c hc
 obtain ⟨x,y,rfl,hx,hy⟩:=lc_inv.2.2.2.2.2.2.1 _ _ _ hc
 refine AW.cond ht ?_
 cases t
 ·exact h _ hy
 ·exact h _ hx
theorem ALW.loop {a:LC} (I:Nat→St→Prop) (h0:∃ n,I n s) (round:∀ n s,I n s→ALW base P a (thenQ (fun s'=>∃ m,m<n∧I m s') Q) s):ALW base P (.loop a) Q s:=by
 intro c hc
 obtain ⟨x,rfl,hx⟩:=lc_inv.2.2.2.2.2.2.2.1 _ hc
 exact AW.loop I h0 fun n s hI=>round n s hI _ hx
def regP (P:Program) (T:Tab) (reg:List LOp) (own:List Nat) (m:Option Nat) (s:St) (K:St→Prop) (KP:D→St→Prop):Prop:=
 match m with
 | none=>aops P T reg own 0 reg s K KP
 | some m=>qops P T reg s.om (reg.take m) s.env fun env=>aops P T reg own m (reg.drop m) ⟨env,s.om⟩ K KP
theorem ALW.reg (hT:TabOk P T) (hm:P.follows .mixedOrders=true) {reg:List LOp} {m:Option Nat} {own:List Nat} (h:regP P T reg own m s (Q .norm) (fun d=>Q (.panic d))):ALW base P (.reg reg own m) Q s:=by
 intro c hc
 obtain ⟨id,ops,draw,rfl⟩:=lc_inv.2.2.2.2.2.2.2.2.1 _ _ _ hc
 cases draw with
 | false=>
  simp only [lc,LC.st,Bool.false_eq_true,if_false,LC.reg.injEq,true_and] at hc
  obtain ⟨hreg,rfl⟩:=hc
  exact AW.region hT reg own hreg h
 | true=>
  simp only [lc,LC.st,if_true] at hc
  split at hc
  ·split at hc
   ·rename_i hok
    simp only [LC.reg.injEq,true_and] at hc
    obtain ⟨hreg,rfl⟩:=hc
    exact AW.regionD hT hm reg own _ hreg (za _ _ ▸ hok:_∧drawOk ops [] (tailAt ops ops.size) true=true).2 h
   ·split at hc
    ·simp at hc
    ·split at hc
     ·simp at hc
     ·split at hc <;> simp at hc
  ·split at hc
   ·simp at hc
   ·split at hc
    ·simp at hc
    ·split at hc
     ·simp at hc
     ·split at hc
      ·simp at hc
      ·split at hc <;> simp at hc
def regtP (P:Program) (T:Tab) (reg:List LOp) (own:List Nat) (m:Nat) (t:OT) (s:St) (K:St→Prop) (KP:D→St→Prop):Prop:=
 qops P T reg s.om (reg.take m) s.env fun env=>treeP P T reg own t ⟨env,s.om⟩ K KP
theorem ALW.regt (hT:TabOk P T) (hm:P.follows .mixedOrders=true) {reg:List LOp} {m:Nat} {t:OT} {own:List Nat} (h:regtP P T reg own m t s (Q .norm) (fun d=>Q (.panic d))):ALW base P (.regt reg own m t) Q s:=by
 intro c hc
 obtain ⟨id,ops,draw,rfl⟩:=lc_inv.2.2.2.2.2.2.2.2.2.1 _ _ _ _ hc
 cases draw with
 | false=>simp [lc,LC.st] at hc
 | true=>
  simp only [lc,LC.st,if_true] at hc
  split at hc
  ·split at hc
   ·simp at hc
   ·split at hc
    ·rename_i hok
     simp only [LC.regt.injEq,true_and] at hc
     obtain ⟨hreg,rfl,rfl⟩:=hc
     exact AW.regionT hT hm reg own _ hreg (za _ _ ▸ hok:_∧drawOk ops [] (headAt ops (firstLoud ops.toList)) false=true).2 h
    ·split at hc
     ·simp at hc
     ·split at hc <;> simp at hc
  ·split at hc
   ·simp at hc
   ·split at hc
    ·simp at hc
    ·split at hc
     ·simp at hc
     ·split at hc
      ·simp at hc
      ·split at hc <;> simp at hc
def regD (P:Program) (T:Tab) (reg:List LOp) (own:List Nat) (m:Nat) (s:St) (K:St→Prop) (KP:D→St→Prop):Prop:=
 qops P T reg s.om (reg.take m) s.env fun env=>aops P T reg own m (reg.drop m) ⟨env,s.om⟩ K KP
theorem ALW.regp (hT:TabOk P T) (hm:P.follows .mixedOrders=true) {reg:List LOp} {pre:List Nat} {m:Nat} {own:List Nat} (h:regD P T reg own m s (Q .norm) (fun d s=>∀ env,Q (.panic d) ⟨env,s.om⟩)):ALW base P (.regp reg own pre m) Q s:=by
 intro c hc
 obtain ⟨id,ops,draw,rfl⟩:=lc_inv.2.2.2.2.2.2.2.2.2.2.2.1 _ _ _ _ hc
 cases draw with
 | false=>simp [lc,LC.st] at hc
 | true =>
  simp only [lc,LC.st,if_true] at hc
  split at hc
  ·split at hc
   ·simp at hc
   ·split at hc
    ·simp at hc
    ·split at hc
     ·simp at hc
     ·split at hc <;> simp at hc
  ·rename_i hr
   split at hc
   ·rename_i hok
    simp only [LC.regp.injEq,true_and] at hc
    obtain ⟨hreg,rfl,rfl⟩:=hc
    rw [za,za] at hok
    exact AW.regionP hT hm reg own _ _ hreg hok.2.1 hok.2.2 (by simp only [noRange,Bool.not_true,Bool.false_or]; simpa using hr) h
   ·split at hc
    ·simp at hc
    ·split at hc
     ·simp at hc
     ·split at hc
      ·simp at hc
      ·split at hc
       ·rename_i hok
        simp only [LC.regp.injEq,true_and] at hc
        obtain ⟨hreg,rfl,rfl⟩:=hc
        rw [za] at hok
        exact AW.regionP hT hm reg own _ _ hreg hok.1 hok.2 (by simp only [noRange,Bool.not_true,Bool.false_or]; simpa using hr) h
       ·simp at hc
theorem ALW.regq (hT:TabOk P T) (hm:P.follows .mixedOrders=true) {reg:List LOp} {m:Nat} {t:OT} {own:List Nat} (h:regtP P T reg own m t s (Q .norm) (fun d=>Q (.panic d))):ALW base P (.regq reg own m t) Q s:=by
 intro c hc
 obtain ⟨id,ops,draw,rfl⟩:=lc_inv.2.2.2.2.2.2.2.2.2.2.2.2.1 _ _ _ _ hc
 cases draw with
 | false=>simp [lc,LC.st] at hc
 | true=>
  simp only [lc,LC.st,if_true] at hc
  split at hc
  ·split at hc
   ·simp at hc
   ·split at hc
    ·simp at hc
    ·split at hc
     ·simp at hc
     ·split at hc
      ·rename_i hok
       simp only [LC.regq.injEq,true_and] at hc
       obtain ⟨hreg,rfl,rfl⟩:=hc
       rw [za,za] at hok
       exact AW.regionT hT hm reg own 0 hreg hok.2.2 (free_tree hreg hok.2.1 h)
      ·simp at hc
  ·split at hc
   ·simp at hc
   ·split at hc
    ·rename_i hok
     simp only [LC.regq.injEq,true_and] at hc
     obtain ⟨hreg,rfl,rfl⟩:=hc
     exact AW.regionT hT hm reg own _ hreg (za _ _ ▸ hok:_∧drawOk ops [] (headAt ops (firstLoud ops.toList)) false=true).2 h
    ·split at hc
     ·simp at hc
     ·split at hc
      ·rename_i hok
       simp only [LC.regq.injEq,true_and] at hc
       obtain ⟨hreg,rfl,rfl⟩:=hc
       rw [za,za] at hok
       exact AW.regionT hT hm reg own 0 hreg hok.2.2 (free_tree hreg hok.2.1 h)
      ·split at hc <;> simp at hc
def regA (P:Program) (T:Tab) (reg:List LOp) (own:List Nat) (m:Nat) (s:St) (K:St→Prop) (KP:D→St→Prop):Prop:=
 qopsA P T reg s.om (reg.take m) s.env fun env=>aops P T reg own m (reg.drop m) (adopt T (reg.take m) env (reg.take m) ⟨env,s.om⟩) K KP
theorem ALW.rega (hT:TabOk P T) (hm:P.follows .mixedOrders=true) {reg:List LOp} {m:Nat} {own:List Nat} (h:regA P T reg own m s (Q .norm) (fun d=>Q (.panic d))):ALW base P (.rega reg own m) Q s:=by
 intro c hc
 obtain ⟨id,ops,draw,rfl⟩:=lc_inv.2.2.2.2.2.2.2.2.2.2.2.2.2 _ _ _ hc
 cases draw with
 | false=>simp [lc,LC.st] at hc
 | true=>
  simp only [lc,LC.st,if_true] at hc
  split at hc
  ·split at hc
   ·simp at hc
   ·split at hc
    ·simp at hc
    ·split at hc
     ·rename_i hok
      simp only [LC.rega.injEq,true_and] at hc
      obtain ⟨hreg,rfl⟩:=hc
      rw [za] at hok
      exact AW.regionA hT hm reg own _ hreg hok.2 hok.1 h
     ·split at hc <;> simp at hc
  ·split at hc
   ·simp at hc
   ·split at hc
    ·simp at hc
    ·split at hc
     ·rename_i hok
      simp only [LC.rega.injEq,true_and] at hc
      obtain ⟨hreg,rfl⟩:=hc
      rw [za] at hok
      exact AW.regionA hT hm reg own _ hreg hok.2 hok.1 h
     ·split at hc
      ·simp at hc
      ·split at hc <;> simp at hc
def jumpP (Q:AX→St→Prop) (pe:Option Code) (s:St):Prop:=
 match pe with
 | none=>Q .norm s
 | some .ret=>Q .ret s
 | some (.exit i)=>Q (.exit i) s
 | _=>False
def endP (Q:AX→St→Prop) (env:List D) (n:Nat) (om':List Ob):Prop:=
 match om'[n]? with
 | some (.lp _ _ _ st pe _)=>st≠.busy∧jumpP Q pe ⟨env,om'.set n .dead⟩
 | _=>False
def rangeP (P:Program) (d:D) (ps:Array Tmp) (ca cb:Code) (Q:AX→St→Prop) (s:St):Prop:=
 match d with
 | .fn f cap=>ACall P f (.yld s.om.length :: cap) (s.om++[.lp ps ca cb .ready none s.env]) fun o om'=>
   match o with
   | .ret _=>endP Q s.env s.om.length om'
   | .panic d=>Q (.panic d) ⟨s.env,om'⟩
 | _=>False
theorem put_ok {E:Env} {om:List Ob} (hR:Rel E om) {k b:Nat} {ps:Array Tmp} {as bo:Code} {st:LoopState} {pe:Option Code} {env:List D} (ho:om[k]? = some (.lp ps as bo st pe env)) (hg:hb (E.g k)=some b) (obj:Obj) (o:Ob)
  (hob:Ext E om { E with w:=E.w.putObj b obj } (om.set k o)→ObR { E with w:=E.w.putObj b obj } k o):Ext E om { E with w:=E.w.putObj b obj } (om.set k o)∧Rel { E with w:=E.w.putObj b obj } (om.set k o):=by
 have hk:k<om.length:=(List.getElem?_eq_some_iff.1 ho).1
 have hlv:Live E om b:=⟨k,_,ho,rfl,hg⟩
 have hget:∀ (j:Nat) (o1:Ob),(om.set k o)[j]? = some o1→(j=k∧o1=o)∨(j≠k∧om[j]? = some o1):=by
  intro j o1 h
  rw [List.getElem?_set] at h
  split at h
  ·rename_i e
   have h':o=o1:=by simpa [hk] using h
   exact .inl ⟨e.symm,h'.symm⟩
  ·rename_i e
   exact .inr ⟨fun h=>e h.symm,h⟩
 have same:∀ j,j≠b→(E.w.putObj b obj).heap[j]? = E.w.heap[j]?:=fun j hj=>World.putObj_heap_other hj
 have hx:Ext E om { E with w:=E.w.putObj b obj } (om.set k o):=by
  refine ⟨Nat.le_refl _,fun _ _=>rfl,fun _ h=>h,by show E.w.heap.size≤(E.w.putObj b obj).heap.size; rw [World.putObj_size]; exact Nat.le_refl _,rfl,rfl,rfl,fun b' hb' hn=>same b' (fun e=>hn (e ▸ hlv)),?_,fun b hA=>.inl hA⟩
  rintro b' ⟨j,o1,hj,hl,hgj⟩
  rcases hget j o1 hj with ⟨rfl,rfl⟩ | ⟨_,h⟩
  ·have hgj:hb (E.g j)=some b':=hgj
   rw [hg] at hgj
   injection hgj with e
   exact .inl (e ▸ hlv)
  ·exact .inl ⟨j,o1,h,hl,hgj⟩
 refine ⟨hx,by rw [List.length_set]; exact hR.len,fun j o1 hj=>?_,fun i j o1 o2 b' h1 h2 h3 h4 h5 h6=>?_,fun b' hA=>by show b'<(E.w.putObj b obj).heap.size; rw [World.putObj_size]; exact hR.old b' hA,hR.one,fun g c h=>(hR.gt g c h).ext hR hx⟩
 ·rcases hget j o1 hj with ⟨rfl,rfl⟩ | ⟨hne,h⟩
  ·exact hob hx
  ·refine ObR.keep hR hx (by rw [← hR.len]; exact (List.getElem?_eq_some_iff.1 h).1) (hR.ob j o1 h) fun hl b' hb'=>⟨same b' fun e=>hne (hR.inj j k _ _ b h ho hl rfl (e ▸ hb') hg),(hR.live_lt ⟨j,o1,h,hl,hb'⟩).2⟩
 ·have look:∀ (i:Nat) (o1:Ob),(om.set k o)[i]? = some o1→o1.live=true→∃ o2,om[i]? = some o2∧o2.live=true:=by
   intro i o1 h hl
   rcases hget i o1 h with ⟨rfl,rfl⟩ | ⟨_,h⟩
   ·exact ⟨_,ho,rfl⟩
   ·exact ⟨o1,h,hl⟩
  obtain ⟨a1,q1,q2⟩:=look i o1 h1 h3
  obtain ⟨a2,q3,q4⟩:=look j o2 h2 h4
  exact hR.inj i j a1 a2 b' q1 q3 q2 q4 h5 h6
theorem Rel.lp {E:Env} {om:List Ob} (hR:Rel E om) {k b:Nat} {ps:Array Tmp} {as bo:Code} {st:LoopState} {pe:Option Code} {env:List D} (ho:om[k]? = some (.lp ps as bo st pe env)) (hg:hb (E.g k)=some b) :
  ∃ r:Loop,E.g k=.pointer (some ⟨b,0,none⟩)∧E.w.heap[b]? = some (.loop r)∧¬ E.A b∧r.params=ps∧r.assign=as∧r.body=bo∧r.state=st∧r.pending=pe∧r.tmps.size=env.length∧∀ t,Rd E (env.getD t .any) (r.tmps.getD t undef):=by
 obtain ⟨b',r,h1,h⟩:=hR.ob k _ ho
 rw [h1] at hg
 simp only [hb,Option.some.injEq] at hg
 subst hg
 exact ⟨r,h1,h⟩
theorem AW.rangeFunc {g:Operand} {ps:Array Tmp} {ca cb:Code} (h:rangeP P (evD s.env g) ps ca cb Q s):AW base P (.rangeFunc g ps ca cb) Q s:=by
 intro r lo E a hr hbase hs
 obtain rfl:r=none:=hr.1.elim id fun h=>by simp [noRange] at h
 unfold rangeP at h
 split at h
 case h_2=>exact h.elim
 rename_i f cap hgv
 obtain ⟨R,⟨hok,hAC⟩,hK⟩:=h
 have hv:=hs.ev g
 rw [hgv] at hv
 generalize hvg:a.eval g=vg at hv
 cases hv with
 | fn vs hvs hcap=>
  refine wpIn_rangeFunc ?_
  intro fn hfn
  have hround:(fence none).round=none:=rfl
  rw [hround]
  let rec0:Loop:={ state:=.ready,pending:=none,fn,tmps:=a.tmps,params:=ps,assign:=ca,body:=cb,defers:=E.w.heap.size }
  let W0:World:=E.w.alloc (.deferred (some []))
  let W1:World:=W0.alloc (.loop rec0)
  have hsz0:W0.heap.size=E.w.heap.size+1:=World.size_alloc _ _
  have hsz1:W1.heap.size=E.w.heap.size+2:=by show (W0.alloc _).heap.size=_; rw [World.size_alloc,hsz0]
  have hL1:W1.heap[E.w.heap.size+1]? = some (.loop rec0):=by rw [← hsz0]; exact World.alloc_heap_new W0 _
  have hD1:W1.heap[E.w.heap.size]? = some (.deferred (some [])):=(RowKit.Below.heap_alloc W0 _ _ (by rw [hsz0]; omega)).trans (World.alloc_heap_new E.w _)
  have hold:∀ b,b<E.w.heap.size→W1.heap[b]? = E.w.heap[b]?:=fun b hb'=>(RowKit.Below.heap_alloc W0 _ _ (by rw [hsz0]; omega)).trans (RowKit.Below.heap_alloc E.w _ _ hb')
  obtain ⟨hx1,hR1,_,_⟩:=push_ok hs.rel (.pointer (some ⟨E.w.heap.size+1,0,none⟩)) W1 (.lp ps ca cb .ready none s.env) rfl (by rw [hsz1]; omega) rfl rfl rfl hold
   (fun b _ hbk=>by simp only [hb,Option.some.injEq] at hbk; omega)
   (fun hx=>⟨E.w.heap.size+1,rec0,by simp [Env.push],hL1,fun hA=>absurd (hs.rel.old _ hA) (by omega),rfl,rfl,rfl,rfl,rfl,hs.size,fun t=>(hs.rd t).ext hs.rel hx⟩)
  let E1:Env:=E.push (.pointer (some ⟨E.w.heap.size+1,0,none⟩)) W1
  have hg1:E1.g s.om.length=.pointer (some ⟨E.w.heap.size+1,0,none⟩):=by rw [hs.rel.len]; simp [E1,Env.push]
  have hargs:RdA E1 (.yld s.om.length :: cap) (#[.func (.yield (E.w.heap.size+1)) #[] #[]]++vs):=by
   refine ⟨by simp [hvs,Nat.add_comm],fun j d hj=>?_⟩
   cases j with
   | zero=>
    simp only [List.getElem?_cons_zero,Option.some.injEq] at hj
    subst hj
    have:(#[Value.func (.yield (E.w.heap.size+1)) #[] #[]]++vs).getD 0 undef=.func (.yield (E.w.heap.size+1)) #[] #[]:=by simp [Array.getD_eq_getD_getElem?,Array.getElem?_append]
    rw [this]
    exact .yld (by show s.om.length<E.n+1; rw [hs.rel.len]; omega) (by rw [hg1]; rfl)
   | succ j=>
    simp only [List.getElem?_cons_succ] at hj
    have:(#[Value.func (.yield (E.w.heap.size+1)) #[] #[]]++vs).getD (j+1) undef=vs.getD j undef:=by simp [Array.getD_eq_getD_getElem?,Array.getElem?_append]
    rw [this]
    exact (hcap j d hj).ext hs.rel hx1
  have hM1:Marks lo E1 (mark E.w.heap.size :: a.defers):=by
   obtain ⟨h0,bs,h1,h2,h3,h4⟩:=hs.defs
   refine ⟨by show lo.n≤W1.heap.size; rw [hsz1]; omega,E.w.heap.size :: bs,List.nodup_cons.2 ⟨fun hm=>?_,h1⟩,by rw [h2]; rfl,fun b hbm=>?_,fun h=>by have:=hr.2 h; simp [noRF] at this⟩
   ·exact absurd (Array.getElem?_eq_some_iff.1 (h3 _ hm).2).1 (Nat.lt_irrefl _)
   ·rcases List.mem_cons.1 hbm with rfl | hbm
    ·exact ⟨h0,hD1⟩
    ·exact ⟨(h3 b hbm).1,(hold b (Array.getElem?_eq_some_iff.1 (h3 b hbm).2).1).trans (h3 b hbm).2⟩
  refine ⟨E.w.heap.size+1,[mark E.w.heap.size],W1,{ target:=.fn (.func f) vs,args:=#[.func (.yield (E.w.heap.size+1)) #[] #[]] },W1,f,#[.func (.yield (E.w.heap.size+1)) #[] #[]]++vs,W1,?_,?_,fun _ _=>trivial,?_,fun h=>(by simp [Fence.wide] at h),?_⟩
  ·exact run_enterLoop_outer _ _ _ _ _
  ·simp only [rangeCall,resolve,hvg,Deferred.ofValue,Sem.run_bind,Sem.run_pure,Result.andThen_ok]
   simp [Act.eval]
  ·simp only [invoke,Sem.run_bind,Sem.run_pure,Result.andThen_ok]
   rw [callFunc_ok hok]
  ·refine (calls_fence (hAC E1 _ hR1 hargs)).mono ?_
   rintro e w' ⟨E2,out,om',hRo,rfl,hx2,hR2,hout⟩
   have hk:=hK out om' hRo
   have hn1:s.om.length<E1.n:=by show s.om.length<E.n+1; rw [hs.rel.len]; omega
   have hg2:E2.g s.om.length=.pointer (some ⟨E.w.heap.size+1,0,none⟩):=(hx2.g _ hn1).trans hg1
   cases out with
   | panic d=>
    obtain ⟨y,rfl,hd⟩:=hout.panic_inv
    exact ⟨E2,.panic d,⟨s.env,om'⟩,hk,⟨y,rfl,hd⟩,rfl,(hx1.trans hx2).toB hbase,hR2,hM1.ext hR1 hx2,hs.size,fun t=>(hs.rd t).ext hs.rel (hx1.trans hx2)⟩
   | ret d=>
    obtain ⟨y,rfl,hd⟩:=hout.ret_inv
    simp only [endP] at hk
    split at hk
    case h_2=>exact hk.elim
    rename_i st pe env' hol
    obtain ⟨hst,hj⟩:=hk
    obtain ⟨r2,q1,q2,q3,q4,q5,q6,q7,q8,q9,q10⟩:=hR2.lp hol (by rw [hg2]; rfl)
    obtain ⟨hx3,hR3⟩:=put_ok hR2 hol (b:=E.w.heap.size+1) (by rw [hg2]; rfl) (.loop { r2 with state:=.exhausted }) .dead (fun _=>trivial)
    have hrun:=run_endLoop (P:=P) q2 (by rw [q7]; exact hst)
    obtain ⟨W3,hW3⟩:∃ W3,W3=E2.w.putObj (E.w.heap.size+1) (.loop { r2 with state:=.exhausted }):=⟨_,rfl⟩
    rw [← hW3] at hrun hx3 hR3
    have hx:=(hx1.trans hx2).trans hx3
    have hsat:Sat lo { E2 with w:=W3 } ⟨s.env,om'.set s.om.length .dead⟩ { a with defers:=[mark E.w.heap.size]++a.defers }:=
     ⟨hR3,(hM1.ext hR1 hx2).ext hR2 hx3,hs.size,fun t=>(hs.rd t).ext hs.rel hx⟩
    refine ⟨r2.pending,W3,hrun,?_⟩
    rw [q8]
    unfold jumpP at hj
    split at hj
    ·exact ⟨_,.norm,_,hj,trivial,rfl,hx.toB hbase,hsat⟩
    ·exact wpIn_ret ⟨_,.ret,_,hj,trivial,rfl,hx.toB hbase,hsat⟩
    ·exact wpIn_exit ⟨_,.exit _,_,hj,rfl,rfl,hx.toB hbase,hsat⟩
    ·exact hj.elim
def LC.nr:LC→Bool
 | .seq a b=>a.nr && b.nr
 | .cond _ a b=>a.nr && b.nr
 | .block _ a=>a.nr
 | .loop a=>a.nr
 | .rfun .. => false
 | .regp .. => false
 | .regq .. => false
 | .rega .. => false
 | .other=>false
 | _=>true
theorem nr_of:∀ {l:LC} {c:Code},lc c=l.st→l.nr=true→noRange c=true:=by
 intro l
 induction l with
 | skip=>intro c h _; obtain rfl:=lc_inv.2.1 h; rfl
 | reg r own m=>intro c h _; obtain ⟨id,ops,d,rfl⟩:=lc_inv.2.2.2.2.2.2.2.2.1 _ _ _ h; rcases lc_region id ops d with e | ⟨_,_,_,e⟩ | ⟨_,_,_,_,e⟩ | ⟨_,_,_,e⟩ | ⟨_,_,_,e⟩ | ⟨_,_,e⟩ <;> first | exact e | (rw [e] at h; simp [LC.st] at h)
 | regt r own m t=>intro c h _; obtain ⟨id,ops,d,rfl⟩:=lc_inv.2.2.2.2.2.2.2.2.2.1 _ _ _ _ h; rcases lc_region id ops d with e | ⟨_,_,_,e⟩ | ⟨_,_,_,_,e⟩ | ⟨_,_,_,e⟩ | ⟨_,_,_,e⟩ | ⟨_,_,e⟩ <;> first | exact e | (rw [e] at h; simp [LC.st] at h)
 | regp r own pre m=>intro c h hn; cases hn
 | regq r own m t=>intro c h hn; cases hn
 | rega r own m=>intro c h hn; cases hn
 | seq a b iha ihb=>
  intro c h hn
  obtain ⟨x,y,rfl,hx,hy⟩:=lc_inv.1 _ _ h
  simp only [LC.nr,za] at hn
  simp [noRange,iha hx hn.1,ihb hy hn.2]
 | cond o a b iha ihb=>
  intro c h hn
  obtain ⟨x,y,rfl,hx,hy⟩:=lc_inv.2.2.2.2.2.2.1 _ _ _ h
  simp only [LC.nr,za] at hn
  simp [noRange,iha hx hn.1,ihb hy hn.2]
 | block id a ih=>
  intro c h hn
  obtain ⟨x,rfl,hx⟩:=lc_inv.2.2.2.2.2.1 _ _ h
  show noRange x=true
  exact ih hx hn
 | loop a ih=>
  intro c h hn
  obtain ⟨x,rfl,hx⟩:=lc_inv.2.2.2.2.2.2.2.1 _ h
  show noRange x=true
  exact ih hx hn
 | exit id=>intro c h _; obtain rfl:=lc_inv.2.2.2.1 _ h; rfl
 | label l=>intro c h _; obtain rfl:=lc_inv.2.2.2.2.1 _ h; rfl
 | ret=>intro c h _; obtain rfl:=lc_inv.2.2.1 h; rfl
 | rfun f ps a b _ _=>intro c h hn; cases hn
 | other=>intro c h hn; cases hn
theorem ALW.rfun {f:Operand} {ps:List Tmp} {x y:LC} (h:∀ ca cb,lc ca=x.st→lc cb=y.st→rangeP P (evD s.env f) ps.toArray ca cb Q s):ALW base P (.rfun f ps x y) Q s:=by
 intro c hc
 obtain ⟨qs,ca,cb,rfl,rfl,h1,h2⟩:=lc_inv.2.2.2.2.2.2.2.2.2.2.1 _ _ _ _ hc
 exact AW.rangeFunc (by simpa using h ca cb h1 h2)
def xl (base:Nat) (P:Program) (T:Tab):LC→(AX→St→Prop)→St→Prop
 | .skip,Q,s=>Q .norm s
 | .reg r own m,Q,s=>regP P T r own m s (Q .norm) (fun d=>Q (.panic d))
 | .regp r own pre m,Q,s=>regD P T r own m s (Q .norm) (fun d s=>∀ env,Q (.panic d) ⟨env,s.om⟩)
 | .regq r own m t,Q,s=>regtP P T r own m t s (Q .norm) (fun d=>Q (.panic d))
 | .rega r own m,Q,s=>regA P T r own m s (Q .norm) (fun d=>Q (.panic d))
 | .regt r own m t,Q,s=>regtP P T r own m t s (Q .norm) (fun d=>Q (.panic d))
 | .rfun f ps x y,Q,s=>∀ ca cb,lc ca=x.st→lc cb=y.st→rangeP P (evD s.env f) ps.toArray ca cb Q s
 | .seq a b,Q,s=>xl base P T a (thenQ (xl base P T b Q) Q) s
 | .cond o a b,Q,s=>
  match evD s.env o with
  | .v (.bool t)=>if t then xl base P T a Q s else xl base P T b Q s
  | _=>False
 | .block id a,Q,s=>xl base P T a (blockQ id Q) s
 | .exit id,Q,s=>Q (.exit id) s
 | .label _,Q,s=>Q .norm s
 | .ret,Q,s=>Q .ret s
 | .loop a,Q,s=>ALW base P (.loop a) Q s
 | .other,_,_=>False
theorem xl_ok (hT:TabOk P T) (hm:P.follows .mixedOrders=true):∀ {l:LC} {Q:AX→St→Prop} {s:St},xl base P T l Q s→ALW base P l Q s:=by
 intro l
 induction l with
 | skip=>intro Q s h; exact ALW.skip h
 | reg r own m=>intro Q s h; exact ALW.reg hT hm h
 | regt r own m t=>intro Q s h; exact ALW.regt hT hm h
 | regp r own pre m=>intro Q s h; exact ALW.regp hT hm h
 | regq r own m t=>intro Q s h; exact ALW.regq hT hm h
 | rega r own m=>intro Q s h; exact ALW.rega hT hm h
 | rfun f ps x y _ _=>intro Q s h; exact ALW.rfun h
 | seq a b iha ihb=>
  intro Q s h
  refine ALW.seq ((iha h).mono ?_)
  intro x s' hq
  cases x
  ·exact ihb hq
  ·exact hq
  ·exact hq
  ·exact hq
 | cond o a b iha ihb=>
  intro Q s h
  simp only [xl] at h
  split at h
  ·rename_i t ht
   refine ALW.cond ht ?_
   cases t
   ·exact ihb h
   ·exact iha h
  ·exact h.elim
 | block id a ih=>intro Q s h; exact ALW.block (ih h)
 | exit id=>intro Q s h; exact ALW.exit h
 | label l=>intro Q s h; exact ALW.label h
 | ret=>intro Q s h; exact ALW.ret h
 | loop a ih=>intro Q s h; exact h
 | other=>intro Q s h; exact h.elim
theorem AC.lbody (hT : TabOk P T) (hm : P.follows .mixedOrders = true) {f : FuncId} {fn : Func} (hf : P.funcs[f]? = some fn) (hn : (fn.name == "runtime.NumGoroutine") = false) {l : LC} (hb : fn.body.map lc = some l.st) {rs : List ResultVar} (hrs : fn.results.toList = rs) {n : Nat} (hnt : fn.ntmps = n) {ds : List D} {om : List Ob} {R : Out → List Ob → Prop}
  (h:xl om.length P T l (finQ T rs om R) ⟨ds++List.replicate (n - ds.length) D.any,om⟩):AC P f ds om R:=by
 simp only [Option.map_eq_some_iff] at hb
 obtain ⟨c,hc,hl⟩:=hb
 exact AC.body hT hf hc hn hrs hnt (xl_ok hT hm h c hl)
theorem ACall.ret {f:FuncId} {ds:List D} {om:List Ob} {d:D} {K:Out→List Ob→Prop} (h:AC P f ds om (retP d om)) (hk:K (.ret d) om):ACall P f ds om K:=
 ⟨_,h,by rintro o om' ⟨rfl,rfl⟩; exact hk⟩
end
def vEq:Value→Value→Bool
 | .bool a,.bool b=>a == b
 | .int k a,.int k' b=>decide (k=k') && decide (a=b)
 | .string a,.string b=>a.size == 0 && b.size == 0
 | .pointer none,.pointer none=>true
 | .slice none a b,.slice none c d=>a == c && b == d
 | .map none,.map none=>true
 | .nilFunc,.nilFunc=>true
 | .nilIface,.nilIface=>true
 | _,_=>false
theorem vEq_ok {a b:Value} (h:vEq a b=true):a=b∧a.oneCell'=true:=by
 unfold vEq at h
 split at h <;> simp_all [Value.oneCell']
def vsEq:List Value→List Value→Bool
 | [],[]=>true
 | a :: x,b :: y=>vEq a b && vsEq x y
 | _,_=>false
theorem vsEq_ok:∀ {x y:List Value},vsEq x y=true→x=y∧∀ v∈x,v.oneCell'=true
 | [],[],_=>⟨rfl,by simp⟩
 | a :: x,b :: y,h=>by
  simp only [vsEq,za] at h
  obtain ⟨h1,h2⟩:=vEq_ok h.1
  obtain ⟨h3,h4⟩:=vsEq_ok h.2
  exact ⟨by rw [h1,h3],by simp [h2]; exact h4⟩
 | [],_ :: _,h=>by simp [vsEq] at h
 | _ :: _,[],h=>by simp [vsEq] at h
def kdB:TypeDesc→TK→Bool
 | .int k,.int k'=>decide (k=k')
 | .bool,.bool=>true
 | .string,.str=>true
 | .slice e,.slice e'=>e == e'
 | .array n e,.arr n' e'=>n == n' && e == e'
 | .struct l,.struct fs=>decide (l.toList.map (fun f=>(f.offset,f.type))=fs)
 | .map k e,.map k' e' _=>k == k' && e == e'
 | .pointer _,.ptr=>true
 | .pointer _,.other | .map ..,.other | .chan ..,.other | .func ..,.other | .interface _,.other | .unsafePointer,.other=>true
 | _,_=>false
theorem kdB_ok {d:TypeDesc} {k:TK} (h:kdB d k=true):KdR d k:=by
 unfold kdB at h
 split at h <;> simp_all [KdR]
def mapB (P:Program):TK→Bool
  | .map k e z=>
    (match P.underlying k with | some .string=>true | _=>false) &&
    (match P.info? e with
     | some inf=>(match inf.zero with | some y=>vEq z y | none=>false)
     | none=>false)
  | _=>true
theorem mapB_ok {P:Program} {x:TK} (h:mapB P x=true):∀ k e z,x=.map k e z→P.underlying k=some .string∧∃ inf,P.info? e=some inf∧inf.zero=some z:=by
 rintro k e z rfl
 simp only [mapB,za] at h
 obtain ⟨h1,h2⟩:=h
 constructor
 ·split at h1
  ·assumption
  ·cases h1
 ·split at h2
  ·rename_i inf hi
   split at h2
   ·rename_i y hy
    exact ⟨inf,hi,by rw [hy,(vEq_ok h2).1]⟩
   ·cases h2
  ·cases h2
def tabB (P:Program):List (Nat × TI)→Bool
  | []=>true
  | (t, i) :: r=>
    (match P.info? t,P.underlying t with
     | some inf,some d=>
       inf.size == i.size && inf.bytes == i.bytes && i.zero.length == i.size && kdB d i.kd &&
       (match inf.zero with
        | some (.agg cs)=>vsEq i.zero cs.toList
        | some z=>!i.kd.agg && vsEq i.zero [z]
        | none=>false) && mapB P i.kd
     | _,_=>false) && tabB P r
theorem tabB_ok {P:Program}:∀ {l:List (Nat × TI)},tabB P l=true→∀ t i,(t,i)∈l→TIok P t i
 | [],_,t,i,h=>by simp at h
 | (t0,i0) :: r,h,t,i,hm=>by
  simp only [tabB,za] at h
  rcases List.mem_cons.1 hm with e | hm
  ·simp only [Prod.mk.injEq] at e
   obtain ⟨rfl,rfl⟩:=e
   have h:=h.1
   split at h
   ·rename_i inf d hi hd
    simp only [za,beq_iff_eq] at h
    obtain ⟨⟨⟨⟨⟨h1,h2⟩,h3⟩,h4⟩,h5⟩,hmz⟩:=h
    have hmz:=mapB_ok hmz
    split at h5
    ·rename_i cs hz
     obtain ⟨h6,h7⟩:=vsEq_ok h5
     exact ⟨⟨inf,_,hi,h1,h2,hz,by simp [Value.cells,h6],fun _=>by rw [h6]⟩,h7,h3,⟨d,hd,kdB_ok h4⟩,hmz⟩
    ·rename_i z hne hz
     simp only [za,Bool.not_eq_true'] at h5
     obtain ⟨h6,h7⟩:=vsEq_ok h5.2
     have hc:z.cells = #[z]:=by cases z <;> first | rfl | exact absurd rfl (hne _)
     exact ⟨⟨inf,_,hi,h1,h2,hz,by rw [hc,h6],fun ha=>by rw [h5.1] at ha; cases ha⟩,h7,h3,⟨d,hd,kdB_ok h4⟩,hmz⟩
    ·simp at h5
   ·simp at h
  ·exact tabB_ok h.2 t i hm
end Go.Proofs.YtbmedfjmccnclaaGreat.AWP
