/- Names that are there once: in order, and each one that stands beside an equal one left out, they are as many. -/
import Derived.Test.YtbmedfjmccnclaaGreatMathA
import Derived.Lib.SlicesCompact
set_option linter.unusedVariables false
set_option linter.unusedSimpArgs false
set_option linter.unusedSectionVars false
namespace Go.Proofs.YtbmedfjmccnclaaGreat.AWP
open Go
open _root_.Nat renaming le_refl → za
open _root_.List renaming cons_append → zb
open _root_.Bool renaming and_eq_true → zc
def skipB (s:ByteArray) (p:Nat):Nat:=if h:p<s.size∧(s.data.getD p 0).toNat=32 then skipB s (p+1) else p
termination_by s.size - p
def byB (s:ByteArray) (p:Nat) (c:Nat):Bool:=decide (p<s.size) && decide ((s.data.getD p 0).toNat=c)
def lowB (s:ByteArray) (p:Nat):Bool:=decide (p<s.size) && (decide (97≤(s.data.getD p 0).toNat) && decide ((s.data.getD p 0).toNat≤122))
def ltrB (n:Nat):Bool:=((decide (97≤n) && decide (n≤122)) || (decide (48≤n) && decide (n≤57))) || decide (n=95)
def nameTo (s:ByteArray) (p:Nat):Nat:=if h:p<s.size∧ltrB (s.data.getD p 0).toNat=true then nameTo s (p+1) else p
termination_by s.size - p
theorem skipB_eq (s:ByteArray) (p:Nat):skipB s p=if p<s.size∧(s.data.getD p 0).toNat=32 then skipB s (p+1) else p:=by
 rw [skipB]; split <;> rfl
theorem nameTo_eq (s:ByteArray) (p:Nat):nameTo s p=if p<s.size∧ltrB (s.data.getD p 0).toNat=true then nameTo s (p+1) else p:=by
 rw [nameTo]; split <;> rfl
theorem skipB_ge (s:ByteArray):∀ (n p:Nat),s.size - p≤n→p≤skipB s p∧(p≤s.size→skipB s p≤s.size):=by
 intro n
 induction n with
 | zero=>
  intro p hn
  rw [skipB_eq,if_neg (by omega)]
  exact ⟨za _,id⟩
 | succ n ih=>
  intro p hn
  rw [skipB_eq]
  split
  ·have:=ih (p+1) (by omega)
   exact ⟨by omega,fun h=>this.2 (by omega)⟩
  ·exact ⟨za _,id⟩
theorem le_skipB (s:ByteArray) (p:Nat):p≤skipB s p:=(skipB_ge s _ p (za _)).1
theorem skipB_le {s:ByteArray} {p:Nat} (h:p≤s.size):skipB s p≤s.size:=(skipB_ge s _ p (za _)).2 h
theorem skipB_at (s:ByteArray):∀ (n p:Nat),s.size - p≤n→¬ (skipB s p<s.size∧(s.data.getD (skipB s p) 0).toNat=32):=by
 intro n
 induction n with
 | zero=>
  intro p hn
  rw [skipB_eq,if_neg (by omega)]
  omega
 | succ n ih=>
  intro p hn
  rw [skipB_eq]
  split
  ·exact ih (p+1) (by omega)
  ·assumption
theorem skipB_idem (s:ByteArray) (p:Nat):skipB s (skipB s p)=skipB s p:=by
 rw [skipB_eq s (skipB s p),if_neg (skipB_at s _ p (za _))]
theorem nameTo_ge (s:ByteArray):∀ (n p:Nat),s.size - p≤n→p≤nameTo s p∧(p≤s.size→nameTo s p≤s.size):=by
 intro n
 induction n with
 | zero=>
  intro p hn
  rw [nameTo_eq,if_neg (by omega)]
  exact ⟨za _,id⟩
 | succ n ih=>
  intro p hn
  rw [nameTo_eq]
  split
  ·have:=ih (p+1) (by omega)
   exact ⟨by omega,fun h=>this.2 (by omega)⟩
  ·exact ⟨za _,id⟩
theorem le_nameTo (s:ByteArray) (p:Nat):p≤nameTo s p:=(nameTo_ge s _ p (za _)).1
theorem nameTo_le {s:ByteArray} {p:Nat} (h:p≤s.size):nameTo s p≤s.size:=(nameTo_ge s _ p (za _)).2 h
theorem byB_lt {s:ByteArray} {p c:Nat} (h:byB s p c=true):p<s.size:=by
 unfold byB at h; rw [zc,decide_eq_true_eq] at h; exact h.1
theorem lowB_lt {s:ByteArray} {p:Nat} (h:lowB s p=true):p<s.size:=by
 unfold lowB at h; rw [zc,decide_eq_true_eq] at h; exact h.1
theorem lowB_ltr {s:ByteArray} {p:Nat} (h:lowB s p=true):p<nameTo s p:=by
 have hp:=lowB_lt h
 unfold lowB at h
 rw [zc] at h
 rw [nameTo_eq,if_pos ⟨hp,by unfold ltrB; rw [h.2]; rfl⟩]
 exact le_nameTo s (p+1)
theorem byB_end {s:ByteArray} {p c:Nat} (h:¬ p<s.size):byB s p c=false:=by unfold byB; rw [decide_eq_false h]; rfl
theorem lowB_end {s:ByteArray} {p:Nat} (h:¬ p<s.size):lowB s p=false:=by unfold lowB; rw [decide_eq_false h]; rfl
theorem byB_at {s:ByteArray} {p c:Nat} {b:UInt8} (hp:p<s.size) (h:s.data[p]? = some b):byB s p c=decide (b.toNat=c):=by
 unfold byB; rw [decide_eq_true hp,at_of h]; rfl
theorem lowB_at {s:ByteArray} {p:Nat} {b:UInt8} (hp:p<s.size) (h:s.data[p]? = some b):lowB s p=(decide (97≤b.toNat) && decide (b.toNat≤122)):=by
 unfold lowB; rw [decide_eq_true hp,at_of h]; rfl
inductive CR where
 | ok (r:Cf) (p:Nat)
 | bad (p e:Nat)
def Cf.fold (kind:Int):List Cf→Cf
 | []=>.mk 0 0 []
 | x :: l=>match l with
  | []=>x
  | _ :: _=>.mk kind 0 [x,Cf.fold kind l]
theorem Cf.fold_one (kind:Int) (x:Cf):Cf.fold kind [x]=x:=by rw [Cf.fold]
theorem Cf.fold_two (kind:Int) (x y:Cf) (l:List Cf):Cf.fold kind (x :: y :: l)=.mk kind 0 [x,Cf.fold kind (y :: l)]:=by rw [Cf.fold]
theorem Cf.fold_foldr (kind:Int):∀ (l:List Cf) (x:Cf),Cf.fold kind (l++[x])=l.foldr (fun y acc=>.mk kind 0 [y,acc]) x
 | [],x=>Cf.fold_one kind x
 | y :: l,x=>by
  have ih:=Cf.fold_foldr kind l x
  cases l with
  | nil=>rw [List.nil_append] at ih; rw [zb,List.nil_append,Cf.fold_two,ih]; rfl
  | cons z l=>rw [zb,zb,Cf.fold_two]; rw [zb] at ih; rw [ih]; rfl
def nmI (l:List ByteArray) (s:ByteArray):Int:=
 match l.findIdx? (fun x=>decide (s=x)) with
 | some i=>(i:Int)
 | none=>-1
section
variable (ks ds:List ByteArray) (A:Nat→CR) (s:ByteArray)
def atomQ (p:Nat):CR:=
 if byB s p 91=true then
  if byB s (skipB s (p+1)) 93=true then .ok (.mk 1 0 []) (skipB s (p+1)+1) else .bad (skipB s (p+1)) 2
 else if byB s p 40=true then
  if byB s (skipB s (p+1)) 41=true then .ok (.mk 2 0 []) (skipB s (p+1)+1)
  else match A (skipB s (p+1)) with
   | .bad q e=>.bad q e
   | .ok r q=>if byB s (skipB s q) 41=true then .ok r (skipB s q+1) else .bad (skipB s q) 2
 else if lowB s p=true then
  if 0≤nmI ks (s.extract p (nameTo s p)) then .ok (.mk 3 (nmI ks (s.extract p (nameTo s p))) []) (nameTo s p)
  else if 0≤nmI ds (s.extract p (nameTo s p)) then .ok (.mk 6 (nmI ds (s.extract p (nameTo s p))) []) (nameTo s p)
  else .bad p 5
 else .bad p 2
def atomP (p:Nat):CR:=atomQ ks ds A s (skipB s p)
def moreB (p:Nat):Bool:=byB s p 91 || (byB s p 40 || lowB s p)
def thenGo (l:List Cf) (p:Nat):CR:=
 if moreB s (skipB s p)=true then
  match atomP ks ds A s p with
  | .bad q e=>.bad q e
  | .ok r q=>if hq:p<q∧q≤s.size then thenGo (l++[r]) q else .bad 0 2
 else .ok (Cf.fold 4 l) p
termination_by s.size - p
def thenP (p:Nat):CR:=
 match atomP ks ds A s p with
 | .bad q e=>.bad q e
 | .ok r q=>thenGo ks ds A s [r] q
def orGo (l:List Cf) (p:Nat):CR:=
 if byB s (skipB s p) 124=true then
  match thenP ks ds A s (skipB s p+1) with
  | .bad q e=>.bad q e
  | .ok r q=>if hq:skipB s p<q∧q≤s.size then orGo (l++[r]) q else .bad 0 2
 else .ok (Cf.fold 5 l) p
termination_by s.size - p
decreasing_by have:=le_skipB s p; omega
def orP (p:Nat):CR:=
 match thenP ks ds A s p with
 | .bad q e=>.bad q e
 | .ok r q=>orGo ks ds A s [r] q
end
def orF (ks ds:List ByteArray) (s:ByteArray) (p:Nat):CR:=orP ks ds (fun q=>if h:skipB s p<q∧q≤s.size then orF ks ds s q else .bad 0 2) s p
termination_by s.size - p
decreasing_by have:=le_skipB s p; omega
def orA (ks ds:List ByteArray) (s:ByteArray) (p q:Nat):CR:=if skipB s p<q∧q≤s.size then orF ks ds s q else .bad 0 2
theorem orF_eq (ks ds:List ByteArray) (s:ByteArray) (p:Nat):orF ks ds s p=orP ks ds (orA ks ds s p) s p:=by
 rw [orF]; rfl
def FwdC (A:Nat→CR) (s:ByteArray):Prop:=∀ {p r q},A p=.ok r q→p≤q∧q≤s.size
section
variable {ks ds:List ByteArray} {A:Nat→CR} {s:ByteArray}
theorem atomP_skip {p p':Nat} (h:skipB s p=skipB s p'):atomP ks ds A s p=atomP ks ds A s p':=by unfold atomP; rw [h]
theorem atomQ_lt (hA:FwdC A s) {p:Nat} {r:Cf} {q:Nat} (h:atomQ ks ds A s p=.ok r q):p<q∧q≤s.size:=by
 have h1:=le_skipB s (p+1)
 unfold atomQ at h
 split at h
 ·split at h
  ·rename_i h0; have:=byB_lt h0; cases h; omega
  ·cases h
 split at h
 ·split at h
  ·rename_i h0; have:=byB_lt h0; cases h; omega
  ·split at h
   ·cases h
   ·rename_i r1 q1 h2
    have:=hA h2
    have:=le_skipB s q1
    split at h
    ·rename_i h0; have:=byB_lt h0; cases h; omega
    ·cases h
 split at h
 ·rename_i h0
  have h2:=lowB_ltr h0
  have h3:=nameTo_le (Nat.le_of_lt (lowB_lt h0))
  split at h
  ·cases h; exact ⟨h2,h3⟩
  ·split at h
   ·cases h; exact ⟨h2,h3⟩
   ·cases h
 ·cases h
theorem atomP_lt (hA:FwdC A s) {p:Nat} {r:Cf} {q:Nat} (h:atomP ks ds A s p=.ok r q):skipB s p<q∧q≤s.size:=atomQ_lt hA h
theorem thenGo_le (hA:FwdC A s):∀ (n:Nat) (l:List Cf) (p:Nat) {r:Cf} {q:Nat},s.size - p≤n→p≤s.size→thenGo ks ds A s l p=.ok r q→p≤q∧q≤s.size:=by
 intro n
 induction n with
 | zero=>
  intro l p r q hn hp h
  rw [thenGo] at h
  split at h
  ·split at h
   ·cases h
   ·rename_i h1
    have:=atomP_lt hA h1
    have:=le_skipB s p
    omega
  ·cases h; exact ⟨za _,hp⟩
 | succ n ih=>
  intro l p r q hn hp h
  rw [thenGo] at h
  split at h
  ·split at h
   ·cases h
   ·split at h
    case isFalse=>cases h
    have:=ih _ _ (by omega) (by omega) h
    omega
  ·cases h; exact ⟨za _,hp⟩
theorem thenP_lt (hA:FwdC A s) {p:Nat} {r:Cf} {q:Nat} (h:thenP ks ds A s p=.ok r q):skipB s p<q∧q≤s.size:=by
 unfold thenP at h
 split at h
 ·cases h
 ·rename_i h1
  have h2:=atomP_lt hA h1
  have:=thenGo_le hA _ _ _ (za _) h2.2 h
  exact ⟨by omega,this.2⟩
theorem orGo_le (hA:FwdC A s):∀ (n:Nat) (l:List Cf) (p:Nat) {r:Cf} {q:Nat},s.size - p≤n→p≤s.size→orGo ks ds A s l p=.ok r q→p≤q∧q≤s.size:=by
 intro n
 induction n with
 | zero=>
  intro l p r q hn hp h
  have:=le_skipB s p
  rw [orGo] at h
  split at h
  ·rename_i h0; have:=byB_lt h0; omega
  ·cases h; exact ⟨za _,hp⟩
 | succ n ih=>
  intro l p r q hn hp h
  have:=le_skipB s p
  rw [orGo] at h
  split at h
  ·split at h
   ·cases h
   ·split at h
    case isFalse=>cases h
    have:=ih _ _ (by omega) (by omega) h
    exact ⟨by omega,this.2⟩
  ·cases h; exact ⟨za _,hp⟩
theorem orP_lt (hA:FwdC A s) {p:Nat} {r:Cf} {q:Nat} (h:orP ks ds A s p=.ok r q):skipB s p<q∧q≤s.size:=by
 unfold orP at h
 split at h
 ·cases h
 ·rename_i h1
  have h2:=thenP_lt hA h1
  have:=orGo_le hA _ _ _ (za _) h2.2 h
  exact ⟨by omega,this.2⟩
end
theorem orF_lt {ks ds:List ByteArray} {s:ByteArray}:∀ (n p:Nat) {r:Cf} {q:Nat},s.size - p≤n→orF ks ds s p=.ok r q→skipB s p<q∧q≤s.size:=by
 intro n
 induction n with
 | zero=>
  intro p r q hn h
  rw [orF_eq] at h
  refine orP_lt ?_ h
  intro p' r' q' h'
  unfold orA at h'
  split at h'
  ·have:=le_skipB s p; omega
  ·cases h'
 | succ n ih=>
  intro p r q hn h
  rw [orF_eq] at h
  refine orP_lt ?_ h
  intro p' r' q' h'
  unfold orA at h'
  split at h'
  ·have:=le_skipB s p; have:=ih _ (by omega) h'; have:=le_skipB s p'; exact ⟨by omega,by omega⟩
  ·cases h'
theorem orA_fwd (ks ds:List ByteArray) (s:ByteArray) (p:Nat):FwdC (orA ks ds s p) s:=by
 intro p' r q h
 unfold orA at h
 split at h
 ·have:=orF_lt _ _ (za _) h; have:=le_skipB s p'; exact ⟨by omega,by omega⟩
 ·cases h
def BadC (A:Nat→CR):Prop:=∀ {p q e},A p=.bad q e→0<e∧e<10
section
variable {ks ds:List ByteArray} {A:Nat→CR} {s:ByteArray}
theorem atomQ_bad (hB:BadC A) {p q e:Nat} (h:atomQ ks ds A s p=.bad q e):0<e∧e<10:=by
 unfold atomQ at h
 split at h
 ·split at h <;> cases h; omega
 split at h
 ·split at h
  ·cases h
  ·split at h
   ·rename_i h1; cases h; exact hB h1
   ·split at h <;> cases h; omega
 split at h
 ·split at h
  ·cases h
  ·split at h <;> cases h; omega
 ·cases h; omega
theorem thenGo_bad (hA:FwdC A s) (hB:BadC A):∀ (n:Nat) (l:List Cf) (p:Nat) {q e:Nat},s.size - p≤n→thenGo ks ds A s l p=.bad q e→0<e∧e<10:=by
 intro n
 induction n with
 | zero=>
  intro l p q e hn h
  rw [thenGo] at h
  split at h
  ·split at h
   ·rename_i h1; cases h; exact atomQ_bad hB h1
   ·split at h
    ·omega
    ·cases h; omega
  ·cases h
 | succ n ih=>
  intro l p q e hn h
  rw [thenGo] at h
  split at h
  ·split at h
   ·rename_i h1; cases h; exact atomQ_bad hB h1
   ·split at h
    ·exact ih _ _ (by omega) h
    ·cases h; omega
  ·cases h
theorem thenP_bad (hA:FwdC A s) (hB:BadC A) {p q e:Nat} (h:thenP ks ds A s p=.bad q e):0<e∧e<10:=by
 unfold thenP at h
 split at h
 ·rename_i h1; cases h; exact atomQ_bad hB h1
 ·exact thenGo_bad hA hB _ _ _ (za _) h
theorem orGo_bad (hA:FwdC A s) (hB:BadC A):∀ (n:Nat) (l:List Cf) (p:Nat) {q e:Nat},s.size - p≤n→orGo ks ds A s l p=.bad q e→0<e∧e<10:=by
 intro n
 induction n with
 | zero=>
  intro l p q e hn h
  have:=le_skipB s p
  rw [orGo] at h
  split at h
  ·split at h
   ·rename_i h1; cases h; exact thenP_bad hA hB h1
   ·split at h
    ·omega
    ·cases h; omega
  ·cases h
 | succ n ih=>
  intro l p q e hn h
  have:=le_skipB s p
  rw [orGo] at h
  split at h
  ·split at h
   ·rename_i h1; cases h; exact thenP_bad hA hB h1
   ·split at h
    ·exact ih _ _ (by omega) h
    ·cases h; omega
  ·cases h
theorem orP_bad (hA:FwdC A s) (hB:BadC A) {p q e:Nat} (h:orP ks ds A s p=.bad q e):0<e∧e<10:=by
 unfold orP at h
 split at h
 ·rename_i h1; cases h; exact thenP_bad hA hB h1
 ·exact orGo_bad hA hB _ _ _ (za _) h
end
theorem orF_bad {ks ds:List ByteArray} {s:ByteArray}:∀ (n p:Nat) {q e:Nat},s.size - p≤n→orF ks ds s p=.bad q e→0<e∧e<10:=by
 intro n
 induction n with
 | zero=>
  intro p q e hn h
  rw [orF_eq] at h
  refine orP_bad (orA_fwd ks ds s p) ?_ h
  intro p' q' e' h'
  change (if skipB s p<p'∧p'≤s.size then orF ks ds s p' else .bad 0 2)=CR.bad q' e' at h'
  split at h'
  ·have:=le_skipB s p; omega
  ·cases h'; omega
 | succ n ih=>
  intro p q e hn h
  rw [orF_eq] at h
  refine orP_bad (orA_fwd ks ds s p) ?_ h
  intro p' q' e' h'
  change (if skipB s p<p'∧p'≤s.size then orF ks ds s p' else .bad 0 2)=CR.bad q' e' at h'
  split at h'
  ·have:=le_skipB s p; exact ih _ (by omega) h'
  ·cases h'; omega
def CR.sk (s:ByteArray):CR→CR
 | .ok r q=>.ok r (skipB s q)
 | .bad q e=>.bad q e
def wholeP (ks ds:List ByteArray) (s:ByteArray):Cf × Nat × Nat:=
 match orF ks ds s 0 with
 | .bad q e=>(.mk 0 0 [],q,e)
 | .ok r q=>if skipB s q<s.size then (.mk 0 0 [],skipB s q,2) else (r,0,0)
end Go.Proofs.YtbmedfjmccnclaaGreat.AWP
namespace Go.Proofs.YtbmedfjmccnclaaGreat.AWP
open Go
open _root_.List renaming length_singleton → za
open _root_.Nat renaming le_refl → zb
theorem nmI_lt {l:List ByteArray} {w:ByteArray} (h:0≤nmI l w):nmI l w<l.length:=by
 unfold nmI at h ⊢
 cases e:l.findIdx? (fun x=>decide (w=x)) with
 | none=>rw [e] at h; simp at h
 | some i=>
  have:=List.findIdx?_eq_some_iff_getElem.1 e
  obtain ⟨hi,_⟩:=this
  show (i:Int)<_
  omega
theorem Cf.fold_sz (kind:Int):∀ (l:List Cf),l≠[]→(Cf.fold kind l).sz+1=Cf.szs l+l.length
 | [],h=>absurd rfl h
 | x :: l,_=>by
  cases l with
  | nil=>rw [Cf.fold_one,Cf.szs_cons,Cf.szs_nil]; rfl
  | cons y l=>
   have ih:=Cf.fold_sz kind (y :: l) (by simp)
   rw [Cf.fold_two,Cf.sz_mk,Cf.szs_cons,Cf.szs_cons,Cf.szs_nil,Cf.szs_cons x]
   simp only [List.length_cons] at ih ⊢
   omega
theorem Cf.mays_two (a b:Nat) (x y:Cf):Cf.mays a b [x,y]=(x.may a b && y.may a b):=by rw [Cf.mays_all]; simp
theorem Cf.fold_may (kind:Int) (hk:kind=4∨kind=5) (a b:Nat):∀ (l:List Cf),l≠[]→(∀ x∈l,x.may a b=true)→(Cf.fold kind l).may a b=true
 | [],h,_=>absurd rfl h
 | x :: l,_,h=>by
  cases l with
  | nil=>rw [Cf.fold_one]; exact h x (by simp)
  | cons y l=>
   have ih:=Cf.fold_may kind hk a b (y :: l) (by simp) fun z hz=>h z (by simp [hz])
   rw [Cf.fold_two,Cf.may_mk,Cf.mays_two,h x (by simp),ih]
   rcases hk with rfl | rfl <;> rfl
def GoodA (a b:Nat) (A:Nat→CR):Prop:=∀ {p r q},A p=.ok r q→r.sz+1≤2 * (q - p)∧r.may a b=true
section
variable {ks ds:List ByteArray} {A:Nat→CR} {s:ByteArray}
theorem atomQ_good (hA:FwdC A s) (hG:GoodA ks.length ds.length A) {p:Nat} {r:Cf} {q:Nat} (h:atomQ ks ds A s p=.ok r q):r.sz+1≤2 * (q - p)∧r.may ks.length ds.length=true:=by
 have h1:=le_skipB s (p+1)
 unfold atomQ at h
 split at h
 ·split at h
  ·cases h; rw [Cf.sz_mk,Cf.szs_nil]; exact ⟨by omega,rfl⟩
  ·cases h
 split at h
 ·split at h
  ·cases h; rw [Cf.sz_mk,Cf.szs_nil]; exact ⟨by omega,rfl⟩
  ·split at h
   ·cases h
   ·rename_i r1 q1 h2
    have h3:=hA h2
    have h4:=hG h2
    have:=le_skipB s q1
    split at h
    ·cases h; exact ⟨by omega,h4.2⟩
    ·cases h
 split at h
 ·rename_i h0
  have h2:=lowB_ltr h0
  split at h
  ·rename_i hn
   have:=nmI_lt hn
   cases h
   rw [Cf.sz_mk,Cf.szs_nil,Cf.may_mk]
   refine ⟨by omega,?_⟩
   rw [Cf.mays_all]
   unfold nodeOk
   simp [hn,this]
  ·split at h
   ·rename_i hn
    have:=nmI_lt hn
    cases h
    rw [Cf.sz_mk,Cf.szs_nil,Cf.may_mk]
    refine ⟨by omega,?_⟩
    rw [Cf.mays_all]
    unfold nodeOk
    simp [hn,this]
   ·cases h
 ·cases h
theorem atomP_good (hA:FwdC A s) (hG:GoodA ks.length ds.length A) {p:Nat} {r:Cf} {q:Nat} (h:atomP ks ds A s p=.ok r q):r.sz+1≤2 * (q - p)∧r.may ks.length ds.length=true:=by
 have h1:=atomQ_good hA hG h
 have h2:=le_skipB s p
 exact ⟨by omega,h1.2⟩
theorem snoc_good {a b:Nat} {l:List Cf} {r:Cf} {p q:Nat} (h1:Cf.szs l+l.length≤2 * p) (h2:∀ x∈l,x.may a b=true) (h3:r.sz+1≤2 * (q - p)) (hpq:p≤q) (h4:r.may a b=true) :
  Cf.szs (l++[r])+(l++[r]).length≤2 * q∧∀ x∈l++[r],x.may a b=true:=by
 rw [Cf.szs_append,Cf.szs_cons,Cf.szs_nil,List.length_append]
 refine ⟨by simp only [za]; omega,fun x hx=>?_⟩
 rcases List.mem_append.1 hx with hx | hx
 ·exact h2 x hx
 ·rw [List.mem_singleton.1 hx]; exact h4
theorem thenGo_good (hA:FwdC A s) (hG:GoodA ks.length ds.length A) (c:Nat):∀ (n:Nat) (l:List Cf) (p:Nat) {r:Cf} {q:Nat},s.size - p≤n→c≤p→l≠[]→Cf.szs l+l.length≤2 * (p - c)→(∀ x∈l,x.may ks.length ds.length=true)→thenGo ks ds A s l p=.ok r q→c≤q∧r.sz+1≤2 * (q - c)∧r.may ks.length ds.length=true:=by
 intro n
 induction n with
 | zero=>
  intro l p r q hn hc hl h1 h2 h
  rw [thenGo] at h
  split at h
  ·split at h
   ·cases h
   ·split at h
    ·omega
    ·cases h
  ·cases h
   have:=Cf.fold_sz 4 l hl
   exact ⟨hc,by omega,Cf.fold_may 4 (.inl rfl) _ _ l hl h2⟩
 | succ n ih=>
  intro l p r q hn hc hl h1 h2 h
  rw [thenGo] at h
  split at h
  ·split at h
   ·cases h
   ·rename_i r1 q1 ha
    split at h
    ·rename_i hq
     have h3:=atomP_good hA hG ha
     have h4:=snoc_good (p:=p - c) (q:=q1 - c) h1 h2 (by omega) (by omega) h3.2
     exact ih _ _ (by omega) (by omega) (by simp) h4.1 h4.2 h
    ·cases h
  ·cases h
   have:=Cf.fold_sz 4 l hl
   exact ⟨hc,by omega,Cf.fold_may 4 (.inl rfl) _ _ l hl h2⟩
theorem thenP_good (hA:FwdC A s) (hG:GoodA ks.length ds.length A) {p:Nat} {r:Cf} {q:Nat} (h:thenP ks ds A s p=.ok r q):r.sz+1≤2 * (q - p)∧r.may ks.length ds.length=true:=by
 unfold thenP at h
 split at h
 ·cases h
 ·rename_i r1 q1 ha
  have h3:=atomP_good hA hG ha
  have h5:=atomP_lt hA ha
  have h6:=le_skipB s p
  have:=thenGo_good hA hG p _ [r1] q1 (zb _) (by omega) (by simp) (by rw [Cf.szs_cons,Cf.szs_nil]; simp only [za]; omega) (by simpa using h3.2) h
  exact this.2
theorem orGo_good (hA:FwdC A s) (hG:GoodA ks.length ds.length A) (c:Nat):∀ (n:Nat) (l:List Cf) (p:Nat) {r:Cf} {q:Nat},s.size - p≤n→c≤p→l≠[]→Cf.szs l+l.length≤2 * (p - c)→(∀ x∈l,x.may ks.length ds.length=true)→orGo ks ds A s l p=.ok r q→c≤q∧r.sz+1≤2 * (q - c)∧r.may ks.length ds.length=true:=by
 intro n
 induction n with
 | zero=>
  intro l p r q hn hc hl h1 h2 h
  have:=le_skipB s p
  rw [orGo] at h
  split at h
  ·split at h
   ·cases h
   ·split at h
    ·omega
    ·cases h
  ·cases h
   have:=Cf.fold_sz 5 l hl
   exact ⟨hc,by omega,Cf.fold_may 5 (.inr rfl) _ _ l hl h2⟩
 | succ n ih=>
  intro l p r q hn hc hl h1 h2 h
  have hsk:=le_skipB s p
  rw [orGo] at h
  split at h
  ·split at h
   ·cases h
   ·rename_i r1 q1 ha
    split at h
    ·rename_i hq
     have h3:=thenP_good hA hG ha
     have h4:=snoc_good (p:=p - c) (q:=q1 - c) h1 h2 (by omega) (by omega) h3.2
     exact ih _ _ (by omega) (by omega) (by simp) h4.1 h4.2 h
    ·cases h
  ·cases h
   have:=Cf.fold_sz 5 l hl
   exact ⟨hc,by omega,Cf.fold_may 5 (.inr rfl) _ _ l hl h2⟩
theorem orP_good (hA:FwdC A s) (hG:GoodA ks.length ds.length A) {p:Nat} {r:Cf} {q:Nat} (h:orP ks ds A s p=.ok r q):r.sz+1≤2 * (q - p)∧r.may ks.length ds.length=true:=by
 unfold orP at h
 split at h
 ·cases h
 ·rename_i r1 q1 ha
  have h3:=thenP_good hA hG ha
  have h5:=thenP_lt hA ha
  have h6:=le_skipB s p
  have:=orGo_good hA hG p _ [r1] q1 (zb _) (by omega) (by simp) (by rw [Cf.szs_cons,Cf.szs_nil]; simp only [za]; omega) (by simpa using h3.2) h
  exact this.2
end
theorem orF_good {ks ds:List ByteArray} {s:ByteArray}:∀ (n p:Nat) {r:Cf} {q:Nat},s.size - p≤n→orF ks ds s p=.ok r q→r.sz+1≤2 * (q - p)∧r.may ks.length ds.length=true:=by
 intro n
 induction n with
 | zero=>
  intro p r q hn h
  rw [orF_eq] at h
  refine orP_good (orA_fwd ks ds s p) ?_ h
  intro p' r' q' h'
  change (if skipB s p<p'∧p'≤s.size then orF ks ds s p' else .bad 0 2)=CR.ok r' q' at h'
  split at h'
  ·have:=le_skipB s p; omega
  ·cases h'
 | succ n ih=>
  intro p r q hn h
  rw [orF_eq] at h
  refine orP_good (orA_fwd ks ds s p) ?_ h
  intro p' r' q' h'
  change (if skipB s p<p'∧p'≤s.size then orF ks ds s p' else .bad 0 2)=CR.ok r' q' at h'
  split at h'
  ·have:=le_skipB s p; exact ih _ (by omega) h'
  ·cases h'
theorem wholeP_good (ks ds:List ByteArray) (s:ByteArray):(wholeP ks ds s).2.2=0→(wholeP ks ds s).1.sz≤2 * s.size∧(wholeP ks ds s).1.may ks.length ds.length=true:=by
 unfold wholeP
 split
 ·rename_i q e h
  intro h0
  have:=(orF_bad _ _ (zb _) h).1
  have h0:e=0:=h0
  omega
 ·rename_i r q h
  split
  ·intro h0; cases h0
  ·intro _
   have h1:=orF_good _ _ (zb _) h
   have h2:=orF_lt _ _ (zb _) h
   exact ⟨show r.sz≤_ by omega,h1.2⟩
end Go.Proofs.YtbmedfjmccnclaaGreat.AWP
namespace Go.Proofs.YtbmedfjmccnclaaGreat.AWP
open Go
open _root_.Bool renaming and_eq_true → za
theorem may_cases {a b:Nat} {p:Cf→Prop} (h1:p (.mk 1 0 [])) (h2:p (.mk 2 0 [])) (h3:∀ n:Nat,n<a→p (.mk 3 n [])) (h6:∀ n:Nat,n<b→p (.mk 6 n []))
  (h4:∀ x y:Cf,x.may a b=true→y.may a b=true→p x→p y→p (.mk 4 0 [x,y])) (h5:∀ x y:Cf,x.may a b=true→y.may a b=true→p x→p y→p (.mk 5 0 [x,y])) :
  ∀ r:Cf,r.may a b=true→p r:=by
 refine Cf.ind (p:=fun r=>r.may a b=true→p r) fun k n ks ih hm=>?_
 rw [Cf.may_mk,za,nodeOk_mk] at hm
 obtain ⟨hn,hk⟩:=hm
 rw [Cf.mays_all] at hk
 have hk':=List.all_eq_true.1 hk
 have nil:∀ {l:List Cf},l.length=0→l=[]:=fun h=>List.eq_nil_of_length_eq_zero h
 split at hn
 ·simp only [za,decide_eq_true_eq] at hn
  obtain ⟨rfl,hl⟩:=hn
  have:=nil hl; subst this
  rename_i hk12
  rcases hk12 with rfl | rfl
  ·exact h1
  ·exact h2
 split at hn
 ·simp only [za,decide_eq_true_eq] at hn
  obtain ⟨⟨hn0,hna⟩,hl⟩:=hn
  have:=nil hl; subst this
  rename_i hk3
  subst hk3
  have:=h3 n.toNat (by omega)
  rwa [Int.toNat_of_nonneg hn0] at this
 split at hn
 ·simp only [za,decide_eq_true_eq] at hn
  obtain ⟨⟨hn0,hna⟩,hl⟩:=hn
  have:=nil hl; subst this
  rename_i hk6
  subst hk6
  have:=h6 n.toNat (by omega)
  rwa [Int.toNat_of_nonneg hn0] at this
 split at hn
 ·simp only [za,decide_eq_true_eq] at hn
  obtain ⟨rfl,hl⟩:=hn
  obtain ⟨x,y,rfl⟩:∃ x y,ks=[x,y]:=by
   match ks,hl with
   | [x,y],_=>exact ⟨x,y,rfl⟩
  have mx:=hk' x (by simp)
  have my:=hk' y (by simp)
  rename_i hk45
  rcases hk45 with rfl | rfl
  ·exact h4 x y mx my (ih x (by simp) mx) (ih y (by simp) my)
  ·exact h5 x y mx my (ih x (by simp) mx) (ih y (by simp) my)
 ·cases hn
end Go.Proofs.YtbmedfjmccnclaaGreat.AWP
namespace Go.Proofs.YtbmedfjmccnclaaGreat.AWP
open Go
open _root_.List renaming pairwise_iff_getElem → za, Nodup → zb
def lsts (l:List ByteArray):List (List UInt8):=l.map fun s=>s.data.toList
def bas (l:List (List UInt8)):List ByteArray:=l.map fun x=>⟨x.toArray⟩
theorem ba_of (s:ByteArray):(⟨s.data.toList.toArray⟩:ByteArray)=s:=by cases s; simp
theorem bas_lsts (l:List ByteArray):bas (lsts l)=l:=by
 unfold bas lsts
 rw [List.map_map]
 have:((fun x:List UInt8=>(⟨x.toArray⟩:ByteArray)) ∘ fun s:ByteArray=>s.data.toList)=id:=by funext s; exact ba_of s
 rw [this,List.map_id]
def srt (l:List ByteArray):List ByteArray:=((l.map fun s=>s.data.toList).mergeSort fun x y=>decide (x≤y)).map fun x=>⟨x.toArray⟩
theorem srt_len (l:List ByteArray):(srt l).length=l.length:=by simp [srt]
theorem srt_perm (l:List ByteArray):(srt l).Perm l:=by
 have h:((lsts l).mergeSort fun x y=>decide (x≤y)).Perm (lsts l):=List.mergeSort_perm _ _
 have:=h.map fun x:List UInt8=>(⟨x.toArray⟩:ByteArray)
 have e:(lsts l).map (fun x:List UInt8=>(⟨x.toArray⟩:ByteArray))=l:=bas_lsts l
 rw [e] at this
 exact this
theorem srt_all (p:ByteArray→Bool) (l:List ByteArray):(srt l).all p=l.all p:=by
 rw [Bool.eq_iff_iff,List.all_eq_true,List.all_eq_true]
 have h:=srt_perm l
 exact ⟨fun H x hx=>H x (h.mem_iff.2 hx),fun H x hx=>H x (h.mem_iff.1 hx)⟩
def cpt (l:List ByteArray):List ByteArray:=bas (Go.Lib.compact (lsts l))
theorem cpt_all (zs:List (List UInt8)):(Go.Lib.compact zs).length=zs.length↔∀ j,j<zs.length→Go.Lib.keeps zs.toArray j=true:=by
 unfold Go.Lib.compact Go.Lib.compactUpTo
 rw [List.length_map]
 have:=List.length_filter_eq_length_iff (p:=Go.Lib.keeps zs.toArray) (l:=List.range zs.length)
 rw [List.length_range] at this
 rw [this]
 exact ⟨fun h j hj=>h j (List.mem_range.2 hj),fun h j hj=>h j (List.mem_range.1 hj)⟩
theorem le_total8 (a b:List UInt8):(decide (a≤b) || decide (b≤a))=true:=by
 rcases List.le_total a b with h | h
 ·simp [h]
 ·simp [h]
theorem le_trans8 (a b c:List UInt8) (h:decide (a≤b)=true) (h':decide (b≤c)=true):decide (a≤c)=true:=by
 simp only [decide_eq_true_eq] at *
 exact List.le_trans h h'
theorem le_anti8 {a b:List UInt8} (h:a≤b) (h':b≤a):a=b:=List.le_antisymm h h'
theorem srt_sorted (l:List ByteArray):((lsts l).mergeSort fun x y=>decide (x≤y)).Pairwise fun x y=>decide (x≤y)=true:=List.pairwise_mergeSort le_trans8 le_total8 _
theorem keeps_nodup {zs:List (List UInt8)} (hs:zs.Pairwise fun x y=>decide (x≤y)=true):(∀ j,j<zs.length→Go.Lib.keeps zs.toArray j=true)↔zs.Nodup:=by
 have hget:∀ i (hi:i<zs.length),zs.toArray[i]! = zs[i]:=fun i hi=>by rw [getElem!_pos _ i (by simpa using hi)]; simp
 rw [za] at hs
 constructor
 ·intro hk
  rw [zb,za]
  intro i j hi hj hij e
  have h1:zs[i]≤zs[i+1]:=by simpa using hs i (i+1) hi (by omega) (by omega)
  have h2:zs[i+1]≤zs[j]:=by
   by_cases e2:i+1=j
   ·subst e2; exact List.le_refl _
   ·simpa using hs (i+1) j (by omega) hj (by omega)
  have h3:zs[i]=zs[i+1]:=le_anti8 h1 (e ▸ h2)
  have:=hk (i+1) (by omega)
  unfold Go.Lib.keeps at this
  rw [decide_eq_true_eq] at this
  rcases this with h | h
  ·omega
  ·apply h
   rw [hget (i+1) (by omega),show i+1 - 1=i by omega,hget i hi,h3]
 ·intro hn j hj
  unfold Go.Lib.keeps
  rw [decide_eq_true_eq]
  rcases Nat.eq_zero_or_pos j with h | h
  ·exact .inl h
  ·right
   rw [hget j hj,hget (j - 1) (by omega)]
   rw [zb,za] at hn
   exact fun e=>hn (j - 1) j (by omega) hj (by omega) e.symm
theorem map_nodup {l:List ByteArray}:(lsts l).Nodup↔l.Nodup:=by
 constructor
 ·intro h
  unfold lsts at h
  rw [zb,List.pairwise_map] at h
  exact h.imp fun hne e=>hne (congrArg (fun s:ByteArray=>s.data.toList) e)
 ·intro h
  unfold lsts
  rw [zb,List.pairwise_map]
  exact h.imp fun hne e=>hne (ByteArray.ext (Array.toList_inj.1 e))
theorem lsts_srt (l:List ByteArray):lsts (srt l)=(lsts l).mergeSort fun x y=>decide (x≤y):=by
 unfold srt
 show (List.map _ (List.map _ _))=_
 rw [List.map_map]
 have:((fun s:ByteArray=>s.data.toList) ∘ fun x:List UInt8=>(⟨x.toArray⟩:ByteArray))=id:=by funext x; simp
 rw [this,List.map_id]; rfl
theorem cpt_srt (l:List ByteArray):decide ((cpt (srt l)).length=(srt l).length)=decide l.Nodup:=by
 rw [Bool.eq_iff_iff,decide_eq_true_eq,decide_eq_true_eq]
 have h1:(cpt (srt l)).length=(Go.Lib.compact (lsts (srt l))).length:=by simp [cpt,bas]
 have h2:(srt l).length=(lsts (srt l)).length:=by simp [lsts]
 rw [h1,h2,cpt_all,lsts_srt,keeps_nodup (srt_sorted l),← map_nodup]
 exact (List.mergeSort_perm _ _).nodup_iff
def onceGo:List ByteArray→List ByteArray→Bool
 | _,[]=>true
 | seen,x :: l=>(nameB x && !seen.any fun y=>decide (y=x)) && onceGo (seen++[x]) l
def onceB (l:List ByteArray):Bool:=l.all nameB && decide l.Nodup
theorem onceGo_eq:∀ (seen l:List ByteArray),seen.Nodup→onceGo seen l=(l.all nameB && decide (seen++l).Nodup)
 | seen,[],h=>by simp [onceGo,h]
 | seen,x :: l,h=>by
  rw [onceGo,List.all_cons]
  cases hn:nameB x with
  | false=>rfl
  | true=>
  simp only [Bool.true_and]
  by_cases hx:x∈seen
  ·have h1:(seen.any fun y=>decide (y=x))=true:=List.any_eq_true.2 ⟨x,hx,by simp⟩
   have h2:¬ (seen++x :: l).Nodup:=fun hd=>by
    rw [List.nodup_append] at hd
    exact hd.2.2 x hx x (by simp) rfl
   rw [h1,decide_eq_false h2]; simp
  ·have h1:(seen.any fun y=>decide (y=x))=false:=List.any_eq_false.2 fun y hy=>by simp; intro e; exact hx (e ▸ hy)
   have h2:(seen++[x]).Nodup:=by
    rw [List.nodup_append]
    exact ⟨h,by simp,fun a ha b hb e=>by simp at hb; subst hb; exact hx (e ▸ ha)⟩
   rw [h1,onceGo_eq (seen++[x]) l h2,List.append_assoc]; rfl
theorem onceGo_nil (l:List ByteArray):onceGo [] l=onceB l:=by rw [onceGo_eq [] l (by simp)]; rfl
end Go.Proofs.YtbmedfjmccnclaaGreat.AWP
