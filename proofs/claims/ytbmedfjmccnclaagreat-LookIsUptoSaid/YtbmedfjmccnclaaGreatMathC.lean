/- The facts of definitions are what their expressions tell; what is nullable, or begins with something, is productive. -/
import Derived.Test.YtbmedfjmccnclaaGreatMathB
set_option linter.unusedVariables false
set_option linter.unusedSimpArgs false
set_option linter.unusedSectionVars false
namespace Go.Proofs.YtbmedfjmccnclaaGreat.AWP
open Go
open _root_.List renaming length_cons → za
open _root_.Nat renaming le_refl → zb
section
variable {X:Type} (R:X→X)
def iter:Nat→X→X
 | 0,x=>x
 | n+1,x=>iter n (R x)
theorem iter_succ:∀ (n:Nat) (x:X),iter R (n+1) x=R (iter R n x)
 | 0,x=>rfl
 | n+1,x=>by rw [iter,iter_succ n (R x)]; rfl
theorem iter_fix {k:Nat} {x:X} (h:R (iter R k x)=iter R k x):∀ m,k≤m→iter R m x=iter R k x:=by
 intro m hm
 obtain ⟨d,rfl⟩:∃ d,m=d+k:=⟨m - k,by omega⟩
 clear hm
 induction d with
 | zero=>rw [Nat.zero_add]
 | succ d ih=>rw [Nat.succ_add,iter_succ,ih,h]
theorem iter_all {P:X→Prop} {cnt:X→Nat} {B:Nat} {x:X} (h0:P x) (hR:∀ y,P y→P (R y)) (hB:∀ y,P y→cnt y≤B) (hs:∀ y,P y→R y≠y→cnt y<cnt (R y)) {k:Nat} (hk:R (iter R k x)=iter R k x) :
  ∀ m,B≤m→iter R m x=iter R k x:=by
 have hP:∀ j,P (iter R j x):=by
  intro j
  induction j with
  | zero=>exact h0
  | succ j ih=>rw [iter_succ]; exact hR _ ih
 have hex:∃ j,j≤B∧R (iter R j x)=iter R j x:=by
  apply Classical.byContradiction
  intro hno
  have hne:∀ j,j≤B→R (iter R j x)≠iter R j x:=fun j hj he=>hno ⟨j,hj,he⟩
  have hc:∀ j,j≤B+1→j≤cnt (iter R j x):=by
   intro j
   induction j with
   | zero=>intro _; exact Nat.zero_le _
   | succ j ih=>
    intro hj
    have h1:=ih (by omega)
    have h2:=hs _ (hP j) (hne j (by omega))
    rw [iter_succ]
    omega
  have h1:=hc (B+1) (zb _)
  have h2:=hB _ (hP (B+1))
  omega
 obtain ⟨j,hj,hf⟩:=hex
 intro m hm
 rw [iter_fix R hf m (by omega)]
 rcases Nat.le_total j k with h | h
 ·exact (iter_fix R hf k h).symm
 ·exact iter_fix R hk j h
end
def leR:List Bool→List Bool→Prop
 | [],[]=>True
 | a :: l,b :: m=>(a=true→b=true)∧leR l m
 | _,_=>False
theorem leR_refl:∀ l,leR l l
 | []=>trivial
 | a :: l=>⟨id,leR_refl l⟩
theorem leR_trans:∀ {a b c:List Bool},leR a b→leR b c→leR a c
 | [],[],[],_,_=>trivial
 | _ :: _,_ :: _,_ :: _,h1,h2=>⟨fun h=>h2.1 (h1.1 h),leR_trans h1.2 h2.2⟩
theorem leR_get:∀ {a b:List Bool},leR a b→∀ (i:Nat),a[i]? = some true→b[i]? = some true
 | [],[],_,i,h=>by simp at h
 | x :: a,y :: b,h,0,h0=>by simp at h0 ⊢; exact h.1 h0
 | x :: a,y :: b,h,i+1,h0=>by simp at h0 ⊢; exact leR_get h.2 i h0
def cntT (l:List Bool):Nat:=(l.filter id).length
theorem cntT_cons (a:Bool) (l:List Bool):cntT (a :: l)=(if a=true then 1 else 0)+cntT l:=by
 unfold cntT; cases a <;> simp [List.filter]; omega
theorem cntT_le (l:List Bool):cntT l≤l.length:=List.length_filter_le _ _
theorem leR_cnt:∀ {a b:List Bool},leR a b→cntT a≤cntT b∧(a≠b→cntT a<cntT b)
 | [],[],_=>⟨zb _,fun h=>absurd rfl h⟩
 | x :: a,y :: b,h=>by
  have ih:=leR_cnt h.2
  rw [cntT_cons,cntT_cons]
  refine ⟨?_,fun hne=>?_⟩
  ·have:=ih.1
   have hx:=h.1
   cases x <;> cases y <;> simp_all <;> omega
  ·by_cases hab:a=b
   ·subst hab
    have hx:=h.1
    cases x <;> cases y <;> simp_all
   ·have:=ih.2 hab
    have hx:=h.1
    cases x <;> cases y <;> simp_all <;> omega
def orR:List Bool→List Bool→List Bool
 | a :: l,b :: m=>(a || b) :: orR l m
 | l,[]=>l
 | [],_=>[]
theorem orR_len:∀ (a b:List Bool),(orR a b).length=a.length
 | [],[]=>rfl
 | [],_ :: _=>rfl
 | _ :: _,[]=>rfl
 | a :: l,b :: m=>by rw [orR,za,za,orR_len l m]
theorem orR_left:∀ (a b:List Bool),leR a (orR a b)
 | [],[]=>trivial
 | [],_ :: _=>trivial
 | a :: l,[]=>leR_refl _
 | a :: l,b :: m=>⟨fun h=>by rw [h]; rfl,orR_left l m⟩
theorem orR_mono:∀ {a b c d:List Bool},leR a c→leR b d→leR (orR a b) (orR c d)
 | [],[],[],[],_,_=>trivial
 | [],_ :: _,[],_ :: _,_,_=>trivial
 | x :: a,[],y :: c,[],h1,_=>h1
 | x :: a,u :: b,y :: c,v :: d,h1,h2=>⟨fun h=>by
   rw [Bool.or_eq_true] at h ⊢
   exact h.imp h1.1 h2.1,orR_mono h1.2 h2.2⟩
theorem orR_of_le:∀ {a b:List Bool},leR a b→orR a b=b
 | [],[],_=>rfl
 | x :: a,y :: b,h=>by
  rw [orR,orR_of_le h.2]
  have:=h.1
  cases x <;> cases y <;> simp_all
theorem orR_comm:∀ {a b:List Bool},a.length=b.length→orR a b=orR b a
 | [],[],_=>rfl
 | x :: a,y :: b,h=>by rw [orR,orR,orR_comm (by simpa using h),Bool.or_comm]
theorem orR_assoc:∀ {a b c:List Bool},a.length=b.length→b.length=c.length→orR (orR a b) c=orR a (orR b c)
 | [],[],[],_,_=>rfl
 | x :: a,y :: b,z :: c,h1,h2=>by rw [orR,orR,orR,orR,orR_assoc (by simpa using h1) (by simpa using h2),Bool.or_assoc]
theorem rep_le:∀ (l:List Bool),leR (List.replicate l.length false) l
 | []=>trivial
 | x :: l=>⟨fun h=>(by cases h),rep_le l⟩
def liveF (null:Bool) (k:List Bool) (kind n:Int) (l:List Bool):Bool:=
 if kind=2 then true
 else if kind=3 then !null
 else if kind=4 then l.getD 0 false && l.getD 1 false
 else if kind=5 then l.getD 0 false || l.getD 1 false
 else if kind=6 then k.getD n.toNat false
 else false
mutual
def Cf.live (null:Bool) (k:List Bool):Cf→Bool
 | .mk kind n ks=>liveF null k kind n (Cf.lives null k ks)
def Cf.lives (null:Bool) (k:List Bool):List Cf→List Bool
 | []=>[]
 | r :: l=>r.live null k :: Cf.lives null k l
end
theorem Cf.live_mk (null:Bool) (k:List Bool) (kind n:Int) (ks:List Cf):(Cf.mk kind n ks).live null k=liveF null k kind n (ks.map (Cf.live null k)):=by
 have:∀ l,Cf.lives null k l=l.map (Cf.live null k):=by
  intro l
  induction l with
  | nil=>rw [Cf.lives]; rfl
  | cons r l ih=>rw [Cf.lives,ih]; rfl
 rw [Cf.live,this]
theorem getD_mono {a b:List Bool} (h:leR a b) (i:Nat) (ha:a.getD i false=true):b.getD i false=true:=by
 rw [List.getD_eq_getElem?_getD] at ha ⊢
 cases e:a[i]? with
 | none=>rw [e] at ha; cases ha
 | some x=>
  rw [e,Option.getD_some] at ha
  subst ha
  rw [leR_get h i e]; rfl
theorem live_mono (null:Bool) {a b:List Bool} (h:leR a b) (r:Cf):r.live null a=true→r.live null b=true:=by
 refine Cf.ind (p:=fun r=>r.live null a=true→r.live null b=true) ?_ r
 intro kind n ks ih
 rw [Cf.live_mk,Cf.live_mk]
 have hk:∀ i,(ks.map (Cf.live null a)).getD i false=true→(ks.map (Cf.live null b)).getD i false=true:=by
  intro i hi
  rw [List.getD_eq_getElem?_getD,List.getElem?_map] at hi ⊢
  cases e:ks[i]? with
  | none=>rw [e] at hi; cases hi
  | some x=>
   rw [e] at hi
   exact ih x (List.mem_of_getElem? e) hi
 unfold liveF
 split
 ·exact id
 split
 ·exact id
 split
 ·intro h1
  rw [Bool.and_eq_true] at h1 ⊢
  exact ⟨hk 0 h1.1,hk 1 h1.2⟩
 split
 ·intro h1
  rw [Bool.or_eq_true] at h1 ⊢
  exact h1.imp (hk 0) (hk 1)
 split
 ·exact getD_mono h _
 ·exact id
section
variable {α:Type} (f:Nat→List α→α)
def swp:Nat→Nat→List α→List α
 | 0,_,l=>l
 | m+1,i,l=>swp m (i+1) (l.set i (f i l))
theorem swp_len:∀ (m i:Nat) (l:List α),(swp f m i l).length=l.length
 | 0,_,l=>rfl
 | m+1,i,l=>by rw [swp,swp_len m,List.length_set]
theorem swp_snoc:∀ (m i:Nat) (l:List α),swp f (m+1) i l=(swp f m i l).set (i+m) (f (i+m) (swp f m i l))
 | 0,i,l=>rfl
 | m+1,i,l=>by
  rw [swp,swp_snoc m (i+1)]
  rw [show i+1+m=i+(m+1) by omega]; rfl
theorem swp_get:∀ (m i:Nat) (l:List α) (j:Nat),i+m≤j→(swp f m i l)[j]? = l[j]?
 | 0,_,l,j,_=>rfl
 | m+1,i,l,j,h=>by
  rw [swp,swp_get m (i+1) _ j (by omega),List.getElem?_set_ne (by omega)]
variable (le:α→α→Prop)
def leL:List α→List α→Prop
 | [],[]=>True
 | a :: l,b :: m=>le a b∧leL l m
 | _,_=>False
variable {le} {f}
theorem leL_refl (hr:∀ a,le a a):∀ l,leL le l l
 | []=>trivial
 | a :: l=>⟨hr a,leL_refl hr l⟩
theorem leL_trans (ht:∀ {a b c},le a b→le b c→le a c):∀ {a b c:List α},leL le a b→leL le b c→leL le a c
 | [],[],[],_,_=>trivial
 | _ :: _,_ :: _,_ :: _,h1,h2=>⟨ht h1.1 h2.1,leL_trans ht h1.2 h2.2⟩
theorem leL_set (hr:∀ a,le a a):∀ {l:List α} {i:Nat} {x y:α},l[i]? = some x→le x y→leL le l (l.set i y)
 | a :: l,0,x,y,h,hxy=>by
  simp only [List.getElem?_cons_zero,Option.some.injEq] at h
  subst h
  exact ⟨hxy,leL_refl hr l⟩
 | a :: l,i+1,x,y,h,hxy=>⟨hr a,leL_set hr (by simpa using h) hxy⟩
theorem leL_get:∀ {a b:List α},leL le a b→∀ {i:Nat} {x:α},a[i]? = some x→∃ y,b[i]? = some y∧le x y
 | x :: a,y :: b,h,0,z,hz=>by
  simp only [List.getElem?_cons_zero,Option.some.injEq] at hz
  subst hz
  exact ⟨y,rfl,h.1⟩
 | x :: a,y :: b,h,i+1,z,hz=>leL_get h.2 (by simpa using hz)
theorem leL_len:∀ {a b:List α},leL le a b→a.length=b.length
 | [],[],_=>rfl
 | _ :: _,_ :: _,h=>by simp [leL_len h.2]
def InvL (le:α→α→Prop) (f:Nat→List α→α) (l:List α):Prop:=∀ (i:Nat) (x:α),l[i]? = some x→le x (f i l)
theorem inv_step (hr:∀ a,le a a) (ht:∀ {a b c},le a b→le b c→le a c) (hm:∀ i {a b:List α},leL le a b→le (f i a) (f i b)) {l:List α} (h:InvL le f l) (i:Nat):InvL le f (l.set i (f i l))∧leL le l (l.set i (f i l)):=by
 by_cases hi:i<l.length
 case neg=>
  rw [List.set_eq_of_length_le (by omega)]
  exact ⟨h,leL_refl hr l⟩
 have hx:l[i]? = some l[i]:=List.getElem?_eq_getElem hi
 have hle:=leL_set (le:=le) hr hx (h i _ hx)
 refine ⟨fun j y hy=>?_,hle⟩
 by_cases e:j=i
 ·subst e
  rw [List.getElem?_set_self hi] at hy
  cases hy
  exact hm j hle
 ·rw [List.getElem?_set_ne (fun e'=>e e'.symm)] at hy
  exact ht (h j y hy) (hm j hle)
theorem inv_swp (hr:∀ a,le a a) (ht:∀ {a b c},le a b→le b c→le a c) (hm:∀ i {a b:List α},leL le a b→le (f i a) (f i b)):∀ (m i:Nat) {l:List α},InvL le f l→InvL le f (swp f m i l)∧leL le l (swp f m i l)
 | 0,_,l,h=>⟨h,leL_refl hr l⟩
 | m+1,i,l,h=>by
  have h1:=inv_step hr ht hm h i
  have h2:=inv_swp hr ht hm m (i+1) h1.1
  exact ⟨h2.1,leL_trans (le:=le) (fun a b=>ht a b) h1.2 h2.2⟩
def cntL (cnt:α→Nat):List α→Nat
 | []=>0
 | a :: l=>cnt a+cntL cnt l
theorem cntL_le {cnt:α→Nat} {B:Nat}:∀ (l:List α),(∀ x∈l,cnt x≤B)→cntL cnt l≤l.length * B
 | [],_=>Nat.zero_le _
 | a :: l,h=>by
  have h1:=h a (by simp)
  have h2:=cntL_le l fun x hx=>h x (by simp [hx])
  rw [cntL,za,Nat.add_mul]; omega
theorem leL_cnt {cnt:α→Nat} (hc:∀ {a b},le a b→cnt a≤cnt b∧(a≠b→cnt a<cnt b)):∀ {a b:List α},leL le a b→cntL cnt a≤cntL cnt b∧(a≠b→cntL cnt a<cntL cnt b)
 | [],[],_=>⟨zb _,fun h=>absurd rfl h⟩
 | x :: a,y :: b,h=>by
  have h1:=hc h.1
  have h2:=leL_cnt hc h.2
  rw [cntL,cntL]
  refine ⟨by have:=h1.1; have:=h2.1; omega,fun hne=>?_⟩
  by_cases e:x=y
  ·subst e
   have:=h2.2 fun e2=>hne (by rw [e2])
   omega
  ·have:=h1.2 e
   have:=h2.1
   omega
theorem rounds (hr:∀ a,le a a) (ht:∀ {a b c},le a b→le b c→le a c) (hm:∀ i {a b:List α},leL le a b→le (f i a) (f i b)) {cnt:α→Nat} {B:Nat} (hc:∀ {a b},le a b→cnt a≤cnt b∧(a≠b→cnt a<cnt b))
  {W:α→Prop} (hW:∀ i l,(∀ x∈l,W x)→W (f i l)) (hB:∀ x,W x→cnt x≤B) {l:List α} (h0:InvL le f l) (hl:∀ x∈l,W x) {n:Nat} {k:Nat} (hk:swp f n 0 (iter (swp f n 0) k l)=iter (swp f n 0) k l) :
  ∀ m,l.length * B≤m→iter (swp f n 0) m l=iter (swp f n 0) k l:=by
 have hWs:∀ (m i:Nat) (l:List α),(∀ x∈l,W x)→∀ x∈swp f m i l,W x:=by
  intro m
  induction m with
  | zero=>intro i l h; exact h
  | succ m ih=>
   intro i l h
   refine ih (i+1) _ fun x hx=>?_
   rcases List.mem_or_eq_of_mem_set hx with hx | rfl
   ·exact h x hx
   ·exact hW i l h
 refine iter_all (swp f n 0) (P:=fun y=>InvL le f y∧(∀ x∈y,W x)∧y.length=l.length) (cnt:=cntL cnt) (B:=l.length * B) ⟨h0,hl,rfl⟩ ?_ ?_ ?_ hk
 ·rintro y ⟨h1,h2,h3⟩
  exact ⟨(inv_swp hr ht hm n 0 h1).1,hWs n 0 y h2,by rw [swp_len,h3]⟩
 ·rintro y ⟨h1,h2,h3⟩
  rw [← h3]
  exact cntL_le y fun x hx=>hB x (h2 x hx)
 ·rintro y ⟨h1,h2,h3⟩ hne
  exact (leL_cnt hc (inv_swp hr ht hm n 0 h1).2).2 fun e=>hne e.symm
end
end Go.Proofs.YtbmedfjmccnclaaGreat.AWP
namespace Go.Proofs.YtbmedfjmccnclaaGreat.AWP
open Go
open _root_.List renaming replicate → za, length_replicate → zb, getD_eq_getElem?_getD → zc
abbrev zR (n:Nat):List Bool:=za n false
def fstF (n:Nat) (F:List (List Bool)) (kind num:Int) (pr nl:List Bool) (fs:List (List Bool)):List Bool:=
 if kind=3 then (zR n).set num.toNat true
 else if kind=6 then orR (zR n) (F.getD num.toNat [])
 else if kind=4 then
  let o:=if pr.getD 1 false=true then orR (zR n) (fs.getD 0 []) else zR n
  if nl.getD 0 false=true then orR o (fs.getD 1 []) else o
 else if kind=5 then orR (orR (zR n) (fs.getD 0 [])) (fs.getD 1 [])
 else zR n
def shnF (n:Nat) (S:List (List Bool)) (kind num:Int) (pr nl:List Bool) (fs ss:List (List Bool)):List Bool:=
 if kind=6 then orR (zR n) (S.getD num.toNat [])
 else if kind=4 then
  let o:=if pr.getD 0 false=true then orR (zR n) (ss.getD 1 []) else zR n
  if nl.getD 1 false=true then orR o (ss.getD 0 []) else o
 else if kind=5 then
  let o1:=orR (zR n) (ss.getD 0 [])
  let o2:=if nl.getD 0 false=true then orR o1 (fs.getD 1 []) else o1
  let o3:=orR o2 (ss.getD 1 [])
  if nl.getD 1 false=true then orR o3 (fs.getD 0 []) else o3
 else zR n
section
variable (P N:List Bool) (n:Nat) (F:List (List Bool))
mutual
def Cf.fst:Cf→List Bool
 | .mk kind num ks=>fstF n F kind num (ks.map (Cf.live false P)) (ks.map (Cf.live true N)) (Cf.fsts ks)
def Cf.fsts:List Cf→List (List Bool)
 | []=>[]
 | r :: l=>r.fst :: Cf.fsts l
end
theorem Cf.fsts_map:∀ l:List Cf,Cf.fsts P N n F l=l.map (Cf.fst P N n F)
 | []=>by rw [Cf.fsts]; rfl
 | r :: l=>by rw [Cf.fsts,Cf.fsts_map l]; rfl
theorem Cf.fst_mk (kind num:Int) (ks:List Cf):(Cf.mk kind num ks).fst P N n F=fstF n F kind num (ks.map (Cf.live false P)) (ks.map (Cf.live true N)) (ks.map (Cf.fst P N n F)):=by
 rw [Cf.fst,Cf.fsts_map]
variable (S:List (List Bool))
mutual
def Cf.shn:Cf→List Bool
 | .mk kind num ks=>shnF n S kind num (ks.map (Cf.live false P)) (ks.map (Cf.live true N)) (ks.map (Cf.fst P N n F)) (Cf.shns ks)
def Cf.shns:List Cf→List (List Bool)
 | []=>[]
 | r :: l=>r.shn :: Cf.shns l
end
theorem Cf.shns_map:∀ l:List Cf,Cf.shns P N n F S l=l.map (Cf.shn P N n F S)
 | []=>by rw [Cf.shns]; rfl
 | r :: l=>by rw [Cf.shns,Cf.shns_map l]; rfl
theorem Cf.shn_mk (kind num:Int) (ks:List Cf):(Cf.mk kind num ks).shn P N n F S=shnF n S kind num (ks.map (Cf.live false P)) (ks.map (Cf.live true N)) (ks.map (Cf.fst P N n F)) (ks.map (Cf.shn P N n F S)):=by
 rw [Cf.shn,Cf.shns_map]
end
theorem fstF_len (n:Nat) (F:List (List Bool)) (kind num:Int) (pr nl:List Bool) (fs:List (List Bool)):(fstF n F kind num pr nl fs).length=n:=by
 unfold fstF
 dsimp only
 split
 ·simp
 split
 ·rw [orR_len]; simp
 split
 ·split <;> split <;> simp only [orR_len,zb]
 split
 ·simp only [orR_len,zb]
 ·simp
theorem shnF_len (n:Nat) (S:List (List Bool)) (kind num:Int) (pr nl:List Bool) (fs ss:List (List Bool)):(shnF n S kind num pr nl fs ss).length=n:=by
 unfold shnF
 dsimp only
 split
 ·rw [orR_len]; simp
 split
 ·split <;> split <;> simp only [orR_len,zb]
 split
 ·split <;> split <;> simp only [orR_len,zb]
 ·simp
theorem fst_len (P N:List Bool) (n:Nat) (F:List (List Bool)) (r:Cf):(r.fst P N n F).length=n:=by cases r; rw [Cf.fst_mk]; exact fstF_len ..
theorem shn_len (P N:List Bool) (n:Nat) (F S:List (List Bool)) (r:Cf):(r.shn P N n F S).length=n:=by cases r; rw [Cf.shn_mk]; exact shnF_len ..
theorem orR_rc {a b c:List Bool} (h1:a.length=b.length) (h2:b.length=c.length):orR (orR a b) c=orR (orR a c) b:=by
 rw [orR_assoc h1 h2,orR_assoc (h1.trans h2) h2.symm,orR_comm h2]
def lstI:Nat→List Bool→List Nat
 | _,[]=>[]
 | i,b :: l=>if b=true then i :: lstI (i+1) l else lstI (i+1) l
theorem lstI_app:∀ (i:Nat) (a b:List Bool),lstI i (a++b)=lstI i a++lstI (i+a.length) b
 | i,[],b=>rfl
 | i,x :: a,b=>by
  rw [List.cons_append,lstI,lstI,lstI_app (i+1) a b,List.length_cons,show i+1+a.length=i+(a.length+1) by omega]
  split <;> simp
theorem lstI_take {l:List Bool} {i:Nat} {b:Bool} (h:l[i]? = some b):lstI 0 (l.take (i+1))=if b=true then lstI 0 (l.take i)++[i] else lstI 0 (l.take i):=by
 have hi:=(List.getElem?_eq_some_iff.1 h).1
 rw [List.take_add_one,h,lstI_app]
 have hl:(l.take i).length=i:=by rw [List.length_take]; omega
 rw [hl,Nat.zero_add]
 cases b <;> simp [lstI]
theorem lstI_len:∀ (i:Nat) (l:List Bool),(lstI i l).length≤l.length
 | _,[]=>Nat.le_refl _
 | i,b :: l=>by
  have:=lstI_len (i+1) l
  rw [lstI]; split <;> simp <;> omega
theorem getD_le {F G:List (List Bool)} (h:leL leR F G) (i:Nat):leR (F.getD i []) (G.getD i []):=by
 rw [zc,zc]
 cases e:F[i]? with
 | none=>
  have hl:=leL_len h
  have:G[i]? = none:=by rw [List.getElem?_eq_none_iff] at e ⊢; omega
  rw [this]; trivial
 | some x=>
  obtain ⟨y,hy,hle⟩:=leL_get h e
  rw [hy]; exact hle
theorem map_le {f g:Cf→List Bool}:∀ (ks:List Cf),(∀ x∈ks,leR (f x) (g x))→leL leR (ks.map f) (ks.map g)
 | [],_=>trivial
 | x :: l,h=>⟨h x (by simp),map_le l fun y hy=>h y (by simp [hy])⟩
theorem fst_mono (P N:List Bool) (n:Nat) {F G:List (List Bool)} (h:leL leR F G) (r:Cf):leR (r.fst P N n F) (r.fst P N n G):=by
 refine Cf.ind (p:=fun r=>leR (r.fst P N n F) (r.fst P N n G)) ?_ r
 intro kind num ks ih
 rw [Cf.fst_mk,Cf.fst_mk]
 have hk:=map_le ks ih
 have h0:=getD_le hk 0
 have h1:=getD_le hk 1
 have hF:=getD_le h num.toNat
 generalize (ks.map (Cf.fst P N n F))=fs at *
 generalize (ks.map (Cf.fst P N n G))=gs at *
 unfold fstF
 dsimp only
 split
 ·exact leR_refl _
 split
 ·exact orR_mono (leR_refl _) hF
 split
 ·split <;> split
  ·exact orR_mono (orR_mono (leR_refl _) h0) h1
  ·exact orR_mono (leR_refl _) h1
  ·exact orR_mono (leR_refl _) h0
  ·exact leR_refl _
 split
 ·exact orR_mono (orR_mono (leR_refl _) h0) h1
 ·exact leR_refl _
theorem shn_mono (P N:List Bool) (n:Nat) (F:List (List Bool)) {S G:List (List Bool)} (h:leL leR S G) (r:Cf):leR (r.shn P N n F S) (r.shn P N n F G):=by
 refine Cf.ind (p:=fun r=>leR (r.shn P N n F S) (r.shn P N n F G)) ?_ r
 intro kind num ks ih
 rw [Cf.shn_mk,Cf.shn_mk]
 have hk:=map_le ks ih
 have h0:=getD_le hk 0
 have h1:=getD_le hk 1
 have hS:=getD_le h num.toNat
 generalize (ks.map (Cf.fst P N n F))=fs at *
 generalize (ks.map (Cf.shn P N n F S))=ss at *
 generalize (ks.map (Cf.shn P N n F G))=gs at *
 unfold shnF
 dsimp only
 split
 ·exact orR_mono (leR_refl _) hS
 split
 ·split <;> split
  ·exact orR_mono (orR_mono (leR_refl _) h1) h0
  ·exact orR_mono (leR_refl _) h0
  ·exact orR_mono (leR_refl _) h1
  ·exact leR_refl _
 split
 ·split <;> split
  ·exact orR_mono (orR_mono (orR_mono (orR_mono (leR_refl _) h0) (leR_refl _)) h1) (leR_refl _)
  ·exact orR_mono (orR_mono (orR_mono (leR_refl _) h0) h1) (leR_refl _)
  ·exact orR_mono (orR_mono (orR_mono (leR_refl _) h0) (leR_refl _)) h1
  ·exact orR_mono (orR_mono (leR_refl _) h0) h1
 ·exact leR_refl _
def tellB (null:Bool) (l:List Df) (i:Nat) (k:List Bool):Bool:=match l[i]? with | some d=>d.2.live null k | none=>false
def tellF (P N:List Bool) (n:Nat) (l:List Df) (i:Nat) (F:List (List Bool)):List Bool:=match l[i]? with | some d=>d.2.fst P N n F | none=>zR n
def tellS (P N:List Bool) (n:Nat) (F:List (List Bool)) (l:List Df) (i:Nat) (S:List (List Bool)):List Bool:=match l[i]? with | some d=>d.2.shn P N n F S | none=>zR n
def joinT (f:Nat→List (List Bool)→List Bool) (i:Nat) (F:List (List Bool)):List Bool:=orR (F.getD i []) (f i F)
def liveR (null:Bool) (l:List Df):List Bool:=iter (swp (tellB null l) l.length 0) (l.length+1) (zR l.length)
def fstR (P N:List Bool) (n:Nat) (l:List Df):List (List Bool):=iter (swp (tellF P N n l) l.length 0) (l.length * n+1) (za l.length (zR n))
def shnR (P N:List Bool) (n:Nat) (F:List (List Bool)) (l:List Df):List (List Bool):=iter (swp (tellS P N n F l) l.length 0) (l.length * n+1) (za l.length (zR n))
def leB (a b:Bool):Prop:=a=true→b=true
theorem leB_refl (a:Bool):leB a a:=id
theorem leB_trans {a b c:Bool} (h1:leB a b) (h2:leB b c):leB a c:=fun h=>h2 (h1 h)
def cntB (b:Bool):Nat:=if b=true then 1 else 0
theorem leB_cnt {a b:Bool} (h:leB a b):cntB a≤cntB b∧(a≠b→cntB a<cntB b):=by
 unfold leB at h
 cases a <;> cases b <;> simp_all [cntB]
theorem leL_leR:∀ {a b:List Bool},leL leB a b→leR a b
 | [],[],_=>trivial
 | x :: a,y :: b,h=>⟨h.1,leL_leR h.2⟩
theorem tellB_mono (null:Bool) (l:List Df) (i:Nat) {a b:List Bool} (h:leL leB a b):leB (tellB null l i a) (tellB null l i b):=by
 unfold tellB leB
 cases l[i]? with
 | none=>exact id
 | some d=>exact live_mono null (leL_leR h) d.2
theorem tellF_mono (P N:List Bool) (n:Nat) (l:List Df) (i:Nat) {a b:List (List Bool)} (h:leL leR a b):leR (tellF P N n l i a) (tellF P N n l i b):=by
 unfold tellF
 cases l[i]? with
 | none=>exact leR_refl _
 | some d=>exact fst_mono P N n h d.2
theorem tellS_mono (P N:List Bool) (n:Nat) (F:List (List Bool)) (l:List Df) (i:Nat) {a b:List (List Bool)} (h:leL leR a b):leR (tellS P N n F l i a) (tellS P N n F l i b):=by
 unfold tellS
 cases l[i]? with
 | none=>exact leR_refl _
 | some d=>exact shn_mono P N n F h d.2
theorem rep_get {α:Type} {m i:Nat} {a x:α} (h:(za m a)[i]? = some x):x=a:=by
 rw [List.getElem?_replicate] at h
 split at h
 ·cases h; rfl
 ·cases h
theorem live_done (null:Bool) (l:List Df) {k:Nat} (hk:swp (tellB null l) l.length 0 (iter (swp (tellB null l) l.length 0) k (zR l.length))=iter (swp (tellB null l) l.length 0) k (zR l.length)) :
  iter (swp (tellB null l) l.length 0) k (zR l.length)=liveR null l:=by
 have h:=rounds (f:=tellB null l) (le:=leB) leB_refl leB_trans (tellB_mono null l) (cnt:=cntB) (B:=1) leB_cnt (W:=fun _=>True) (fun _ _ _=>trivial) (fun x _=>by unfold cntB; split <;> omega) (l:=zR l.length)
  (fun i x hx=>by rw [rep_get hx]; exact fun h=>by cases h) (fun _ _=>trivial) hk (l.length+1) (by simp)
 exact h.symm
theorem join_done {n:Nat} {f:Nat→List (List Bool)→List Bool} {m:Nat} (hm:∀ i {a b:List (List Bool)},leL leR a b→leR (f i a) (f i b)) (hl:∀ i a,(f i a).length=n) {k:Nat}
  (hk:swp (joinT f) m 0 (iter (swp (joinT f) m 0) k (za m (zR n)))=iter (swp (joinT f) m 0) k (za m (zR n))) :
  iter (swp (joinT f) m 0) k (za m (zR n))=iter (swp f m 0) (m * n+1) (za m (zR n)):=by
 have hQ0:InvL leR f (za m (zR n)):=by
  intro i x hx
  rw [rep_get hx]
  have:=rep_le (f i (za m (zR n)))
  rwa [hl] at this
 have heq:∀ (i:Nat) (F:List (List Bool)),InvL leR f F→i<F.length→joinT f i F=f i F:=by
  intro i F hF hi
  have hx:F[i]? = some F[i]:=List.getElem?_eq_getElem hi
  have:=hF i _ hx
  unfold joinT
  rw [zc,hx,Option.getD_some]
  exact orR_of_le this
 have hstep:∀ (i:Nat) (F:List (List Bool)),InvL leR f F→F.set i (joinT f i F)=F.set i (f i F):=by
  intro i F hF
  by_cases hi:i<F.length
  ·rw [heq i F hF hi]
  ·rw [List.set_eq_of_length_le (by omega),List.set_eq_of_length_le (by omega)]
 have hsw:∀ (q i:Nat) (F:List (List Bool)),InvL leR f F→swp (joinT f) q i F=swp f q i F:=by
  intro q
  induction q with
  | zero=>intro i F _; rfl
  | succ q ih=>
   intro i F hF
   rw [swp,swp,hstep i F hF]
   exact ih (i+1) _ (inv_step leR_refl leR_trans hm hF i).1
 have hit:∀ (j:Nat),iter (swp (joinT f) m 0) j (za m (zR n))=iter (swp f m 0) j (za m (zR n))∧InvL leR f (iter (swp f m 0) j (za m (zR n))):=by
  intro j
  induction j with
  | zero=>exact ⟨rfl,hQ0⟩
  | succ j ih=>
   rw [iter_succ,iter_succ,ih.1,hsw m 0 _ ih.2]
   exact ⟨rfl,(inv_swp leR_refl leR_trans hm m 0 ih.2).1⟩
 rw [(hit k).1] at hk ⊢
 rw [hsw m 0 _ (hit k).2] at hk
 have h:=rounds (f:=f) (le:=leR) leR_refl leR_trans hm (cnt:=cntT) (B:=n) leR_cnt (W:=fun x=>x.length=n) (fun i l _=>hl i l) (fun x hx=>by rw [← hx]; exact cntT_le x) (l:=za m (zR n)) hQ0
  (fun x hx=>by rw [List.eq_of_mem_replicate hx]; simp) hk (m * n+1) (by rw [zb]; omega)
 exact h.symm
end Go.Proofs.YtbmedfjmccnclaaGreat.AWP
namespace Go.Proofs.YtbmedfjmccnclaaGreat.AWP
open Go
section
variable {X:Type} {R:X→X}
end
section
variable {α:Type} {le:α→α→Prop} {f:Nat→List α→α}
end
section
variable {P N:List Bool} {n:Nat}
end
end Go.Proofs.YtbmedfjmccnclaaGreat.AWP
